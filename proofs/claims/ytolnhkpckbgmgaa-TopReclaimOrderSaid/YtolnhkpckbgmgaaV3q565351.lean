import Derived.RangeFuncBox
import Derived.RangeFuncLeaves
import Derived.Shelf.Abstract
import Derived.WalkKit
import Derived.OwnWalkIn
import Derived.TacticsInMore
import Derived.LoopNIn
import Derived.LoopIn
import Derived.Test.YtolnhkpckbgmgaaProg
import Derived.Test.YtolnhkpckbgmgaaAmZ3q994adf
import Derived.RangeFuncWrites
import Derived.Maps.OwnIn
import Derived.RangeFuncCalls
import Derived.RangeFuncNested
import Derived.RangeFuncBound
import Derived.Shelf.RegionOpen
import Derived.TacticsIn
import Derived.RegionIn
import Derived.Maps.OwnSet
import Derived.Deep.RegionHeld
import Derived.Maps.AppendAt
import Derived.Laws.OwnMore
section
/- Generations: the frames in their order, as an iterator. -/
set_option linter.unusedSimpArgs false
set_option linter.unusedVariables false
namespace Go.Proofs.Ytolnhkpckbgmgaa
open Go.RowKit Go.Shelf
attribute [local go_sem] Oper.semAt_some
abbrev I64 := { x : Int // (Lit.int .i64 x).wf = true }
def z0 : I64 := ⟨0, by decide⟩
abbrev K64 := { k : Nat // (Lit.int .i64 (k : Int)).wf = true }
theorem k64_wf {k : Nat} (h : k ≤ 1000000) : (Lit.int .i64 (k : Int)).wf = true := by
  simp [Lit.wf, IntKind.has, IntKind.min, IntKind.max, IntKind.bits, IntKind.signed]
  omega
def k64 (k : Nat) : K64 := if h : (Lit.int .i64 (k : Int)).wf = true then ⟨k, h⟩ else ⟨0, by decide⟩
theorem k64_val {k : Nat} (h : k ≤ 1000000) : (k64 k).1 = k := by unfold k64; rw [dif_pos (k64_wf h)]
def fromRow (z : List I64) (k i : Nat) : List (K64 × I64) := (List.range i).map fun j => (k64 k, z[j]?.getD z0)
theorem fromRow_succ (z : List I64) (k i : Nat) : fromRow z k (i + 1) = fromRow z k i ++ [(k64 k, z[i]?.getD z0)] := by simp [fromRow, List.range_succ]
def fromRows (zs : List (List I64)) (k : Nat) : List (K64 × I64) := (List.range k).flatMap fun j => fromRow (zs[j]?.getD []) j (zs[j]?.getD []).length
theorem fromRows_succ (zs : List (List I64)) (k : Nat) : fromRows zs (k + 1) = fromRows zs k ++ fromRow (zs[k]?.getD []) k (zs[k]?.getD []).length := by simp [fromRows, List.range_succ]
theorem fromRows_le (zs : List (List I64)) {a b : Nat} (h : a ≤ b) : (fromRows zs a).length ≤ (fromRows zs b).length := by
  induction b with
  | zero => have : a = 0 := by omega
            subst this; exact Nat.le_refl _
  | succ b ih =>
    rcases Nat.lt_or_eq_of_le h with h | rfl
    · rw [fromRows_succ, List.length_append]
      have := ih (by omega)
      omega
    · exact Nat.le_refl _
theorem fromRow_pre (z : List I64) (k : Nat) {j : Nat} (h : j ≤ z.length) : fromRow z k j <+: fromRow z k z.length := by
  unfold fromRow
  rw [show z.length = j + (z.length - j) by omega, List.range_add, List.map_append]
  exact List.prefix_append _ _
theorem fromRows_pre' (zs : List (List I64)) {a b : Nat} (h : a ≤ b) : fromRows zs a <+: fromRows zs b := by
  induction b with
  | zero => have : a = 0 := by omega
            subst this; exact List.prefix_refl _
  | succ b ih =>
    rcases Nat.lt_or_eq_of_le h with h | rfl
    · rw [fromRows_succ]
      exact (ih (by omega)).trans (List.prefix_append _ _)
    · exact List.prefix_refl _
theorem fromRows_pre (zs : List (List I64)) {k j : Nat} (hk : k < zs.length) (hj : j ≤ (zs[k]?.getD []).length) : fromRows zs k ++ fromRow (zs[k]?.getD []) k j <+: fromRows zs zs.length := by
  refine List.IsPrefix.trans ?_ (fromRows_pre' zs (show k + 1 ≤ zs.length by omega))
  rw [fromRows_succ]
  exact (List.prefix_append_right_inj _).2 (fromRow_pre _ _ hj)
theorem fromRow_len (z : List I64) (k i : Nat) : (fromRow z k i).length = i := by simp [fromRow]
def IntsAt (n₀ : Nat) (W : World) (sv : Value) (zs : List I64) : Prop :=
  ∃ ad cap, sv = .slice ad zs.length cap ∧ ∀ j, j < zs.length → ∃ b off, ad = some ⟨b, off, none⟩ ∧ b < n₀ ∧ W.cell? ⟨b, off + j, none⟩ = some (.int .i64 (zs[j]?.getD z0).1)
theorem IntsAt.below {n₀ : Nat} {A B : World} (h : Below n₀ A B) {sv : Value} {zs : List I64} : IntsAt n₀ A sv zs → IntsAt n₀ B sv zs
  | ⟨ad, cap, e, hc⟩ => ⟨ad, cap, e, fun j hj => let ⟨b, off, e, hb, h1⟩ := hc j hj; ⟨b, off, e, hb, (h.cell (p := ⟨b, off + j, none⟩) hb).trans h1⟩⟩
def RowsAt (n₀ : Nat) (W : World) (b off : Nat) (zs : List (List I64)) : Prop := ∀ j, j < zs.length → ∃ sv, W.cell? ⟨b, off + j, none⟩ = some sv ∧ IntsAt n₀ W sv (zs[j]?.getD [])
theorem RowsAt.below {n₀ : Nat} {A B : World} (h : Below n₀ A B) {b off : Nat} {zs : List (List I64)} (hb : b < n₀) (hr : RowsAt n₀ A b off zs) : RowsAt n₀ B b off zs := fun j hj => by
  obtain ⟨sv, h1, h2⟩ := hr j hj
  exact ⟨sv, (h.cell (p := ⟨b, off + j, none⟩) hb).trans h1, h2.below h⟩
theorem RowsAt.mono {n₀ n₁ : Nat} (h : n₀ ≤ n₁) {W : World} {b off : Nat} {zs : List (List I64)} (hr : RowsAt n₀ W b off zs) : RowsAt n₁ W b off zs := fun j hj => by
  obtain ⟨sv, h1, ad, cap, h2, h3⟩ := hr j hj
  exact ⟨sv, h1, ad, cap, h2, fun i hi => let ⟨b', o', e, hb, hc⟩ := h3 i hi; ⟨b', o', e, Nat.lt_of_lt_of_le hb h, hc⟩⟩
set_option maxRecDepth 100000 in
set_option maxHeartbeats 4000000 in
theorem all1_in (F : Fence) (n : Nat) (hf : F.fn 29) (hro : F.round = none) (hn : 1 ≤ n) (l Bs n₀ b off cap : Nat) (zs : List (List I64)) (hz : zs.length ≤ 1000000) (hzs : ∀ z ∈ zs, z.length ≤ 1000000) (hb : b < n₀) (J Jx : List (K64 × I64) → World → Prop)
    (hY : ∀ pre x W, J pre W → pre.length < (fromRows zs zs.length).length → YieldAt F (n - 1) Try.prog l #[.int .i64 (x.1.1 : Int), .int .i64 x.2.1] W fun e W' =>
      (e = .returned (.bool true) ∧ J (pre ++ [x]) W' ∧ Below n₀ W W') ∨ (e = .returned (.bool false) ∧ Jx (pre ++ [x]) W'))
    (W : World) (hBs : W.cell? ⟨Bs, 0, none⟩ = some (.slice (some ⟨b, off, none⟩) zs.length cap)) (hc : RowsAt n₀ W b off zs) (h0 : J [] W) :
    CallsIn F n Try.prog 29 #[.func (.yield l) #[] #[], .pointer (some ⟨Bs, 0, none⟩)] W fun e W' => (∃ v, e = .returned v) ∧
      ((∃ ys, ys = fromRows zs zs.length ∧ J ys W') ∨ (∃ pre, pre <+: fromRows zs zs.length ∧ Jx pre W')) := by
  refine callsIn_of_wp Try.func29 rfl hf ?_ hro
  simp only [Try.ntmps29, List.size_toArray, List.length_cons, List.length_nil, Nat.reduceAdd, Nat.reduceSub, Array.replicate_succ, Array.replicate_zero, List.push_toArray, List.append_toArray, List.nil_append, List.cons_append]
  gi_wp2
  gi_loopw [9] (fun i wr => ∃ k : Nat, k ≤ zs.length ∧ i = .int .i64 k ∧ J (fromRows zs k) wr ∧ Below n₀ W wr)
    (fun i _ => zs.length - (intOf i).toNat)
  case atStart => exact ⟨0, Nat.zero_le _, rfl, h0, Below.refl _ _⟩
  case round =>
    obtain ⟨k, hk, rfl, hJs, hnx⟩ := hrel
    by_cases hlt : k < zs.length
    · obtain ⟨sv, hsv, hi⟩ := hc.below hnx hb k hlt
      have hlz : (zs[k]?.getD []).length ≤ 1000000 := by
        rw [List.getElem?_eq_getElem hlt]
        exact hzs _ (List.getElem_mem hlt)
      have hsum : ∀ j, j ≤ (zs[k]?.getD []).length → (fromRows zs k).length + j ≤ (fromRows zs zs.length).length := fun j hj => by
        have := fromRows_le zs (show k + 1 ≤ zs.length by omega)
        rw [fromRows_succ, List.length_append, fromRow_len] at this
        omega
      generalize hzk : zs[k]?.getD [] = z at *
      obtain ⟨ad, cap', rfl, hcs⟩ := hi
      gi_wp2
      gi_loopw [16] (fun i w2 => ∃ j : Nat, j ≤ z.length ∧ i = .int .i64 j ∧ J (fromRows zs k ++ fromRow z k j) w2 ∧ Below n₀ W w2 ∧ Below n₀ wr w2)
        (fun i _ => z.length - (intOf i).toNat)
      case atStart => exact ⟨0, Nat.zero_le _, rfl, by simpa [fromRow] using hJs, hnx, Below.refl _ _⟩
      case round =>
        obtain ⟨j, hj, rfl, hJ2, hn2, hn3⟩ := hrel
        by_cases hjt : j < z.length
        · obtain ⟨b2, off2, rfl, hb2, hcell⟩ := hcs j hjt
          have hcell2 := (hn3.cell (p := ⟨b2, off2 + j, none⟩) hb2).trans hcell
          obtain ⟨x, hx⟩ : ∃ x, z[j]?.getD z0 = x := ⟨_, rfl⟩
          rw [hx] at hcell2
          obtain ⟨fn, tmps, assign, body, hy, hR⟩ := hY _ (k64 k, x) _ hJ2 (by
            have := hsum z.length (Nat.le_refl _)
            rw [List.length_append, fromRow_len]; omega)
          dsimp only at hy
          rw [k64_val (by omega)] at hy
          gi_wp2
          refine hR.mono ?_
          rintro e W3 (⟨rfl, hJ3, hk3⟩ | ⟨rfl, hJx3⟩)
          · gi_wp2
            go_roundw
            case rel => exact ⟨j + 1, by omega, by simp, by rw [fromRow_succ, ← List.append_assoc, hx]; exact hJ3, hn2.trans hk3, hn3.trans hk3⟩
            case measure => simp [intOf]; omega
          · gi_wp2
            refine bodyPost_ret (results_none rfl _ _ _) rfl ?_
            exact ⟨⟨_, rfl⟩, .inr ⟨_, by have := fromRows_pre zs hlt (j := j + 1) (by rw [hzk]; omega); rw [hzk, fromRow_succ, hx, ← List.append_assoc] at this; exact this, hJx3⟩⟩
        · obtain rfl : j = z.length := by omega
          gi_wp2
          exact ⟨⟨k + 1, by omega, by simp, by rw [fromRows_succ, hzk]; exact hJ2, hn2⟩, by simp [intOf]; omega⟩
    · obtain rfl : k = zs.length := by omega
      gi_wp2
      go_end0
      exact ⟨⟨_, rfl⟩, .inl ⟨_, rfl, hJs⟩⟩
set_option maxHeartbeats 1000000 in
theorem all_in (F : Fence) (n : Nat) (hf : F.fn 18) (hro : F.round = none) (a : Option Addr) (len cap : Nat) (w : World) :
    CallsIn F n Try.prog 18 #[.slice a len cap] w fun e w' => e = .returned (.func (.func 29) #[] #[.pointer (some ⟨w.heap.size, 0, none⟩)]) ∧ w' = w.alloc (.cells #[.slice a len cap] 24) := by
  refine callsIn_of_wp Try.func18 rfl hf ?_ hro
  simp only [Try.ntmps18, List.size_toArray, List.length_cons, List.length_nil, Nat.reduceAdd, Nat.reduceSub, Array.replicate_succ, Array.replicate_zero, List.push_toArray, List.append_toArray, List.nil_append, List.cons_append]
  gi_wp2
  go_ret
  exact ⟨rfl, rfl⟩
theorem all_stops (F : Fence) (n : Nat) (hf : F.fn 29) (hro : F.round = none) (hn : 1 ≤ n) (Bs n₀ b off cap : Nat) (zs : List (List I64)) (hz : zs.length ≤ 1000000) (hzs : ∀ z ∈ zs, z.length ≤ 1000000) (w : World) (hBs : Bs < w.heap.size) (hn₀ : n₀ ≤ w.heap.size) (hb : b < n₀)
    (hc : w.cell? ⟨Bs, 0, none⟩ = some (.slice (some ⟨b, off, none⟩) zs.length cap)) (hI : RowsAt n₀ w b off zs) :
    SeqStopsK F n Try.prog 29 #[.pointer (some ⟨Bs, 0, none⟩)] (fun x : K64 × I64 => #[Value.int .i64 (x.1.1 : Int), Value.int .i64 x.2.1]) (Below n₀) (fun ys => ys = fromRows zs zs.length) (fun pre => pre <+: fromRows zs zs.length) (fromRows zs zs.length).length w := fun l J Jx W hW _ _ hY h0 => by
  have hc' := (hW.cell (p := ⟨Bs, 0, none⟩) hBs).trans hc
  refine (all1_in F n hf hro hn l Bs n₀ b off cap zs hz hzs hb J Jx hY W hc' (hI.below (hW.mono hn₀) hb) h0).mono ?_
  rintro e W' ⟨he, ⟨ys, rfl, hj⟩ | ⟨pre, hp, hj⟩⟩
  · exact ⟨he, .inl ⟨_, rfl, hj⟩⟩
  · exact ⟨he, .inr ⟨_, hp, hj⟩⟩
end Go.Proofs.Ytolnhkpckbgmgaa
end
section
/- Generations: the number of the list of each frame. -/
set_option linter.unusedSimpArgs false
set_option linter.unusedVariables false
namespace Go.Proofs.Ytolnhkpckbgmgaa
open Go.RowKit Go.Shelf
attribute [local go_sem] Oper.semAt_some
theorem cell_box_c {W : World} {b : Nat} {v : Value} {t : TypeId} (h : W.heap[b]? = some (.cells #[v] t (0, 0))) : W.cell? ⟨b, 0, none⟩ = some v ∧ W.frozen? ⟨b, 0, none⟩ = false := by
  constructor <;> simp [World.cell?, World.frozen?, h]
theorem cell_new_c (W : World) (v : Value) (t : TypeId) : (W.alloc (.cells #[v] t)).cell? ⟨W.heap.size, 0, none⟩ = some v ∧ (W.alloc (.cells #[v] t)).frozen? ⟨W.heap.size, 0, none⟩ = false :=
  cell_box_c (World.alloc_heap_new W _)
theorem cell_alloc_c {W : World} {a : Addr} {v : Value} (o : Obj) (h : W.cell? a = some v) : (W.alloc o).cell? a = some v := cell_kept h (World.grownBy_alloc W o none) (fun r e => by cases e)
def agesD {H : Type} (xs : List (K64 × I64)) : DataW H := xs.foldl (fun D x => D.put (.int .i64 x.2.1) (.lit (.int .i64 (x.1.1 : Int)))) (.map [])
theorem agesD_snoc {H : Type} (pre : List (K64 × I64)) (x : K64 × I64) : agesD (H := H) (pre ++ [x]) = (agesD pre).put (.int .i64 x.2.1) (.lit (.int .i64 (x.1.1 : Int))) := by simp [agesD]
set_option maxRecDepth 100000 in
set_option maxHeartbeats 4000000 in
theorem ages_in {H : Type} (F : Fence) (n : Nat) (h3 : F.fn 16) (h4 : F.fn 18) (h5 : F.fn 29) (hro : F.round = none) (hn : 3 ≤ n) (b off cap : Nat) (zs : List (List I64)) (hz : zs.length ≤ 1000000) (hzs : ∀ z ∈ zs, z.length ≤ 1000000) (hlen : (fromRows zs zs.length).length ≤ maxLen) (w : World) (hb : b < w.heap.size) (hI : RowsAt w.heap.size w b off zs) :
    CallsIn F n Try.prog 16 #[.slice (some ⟨b, off, none⟩) zs.length cap] w fun e W' => e = .returned (.map (some w.heap.size)) ∧ W'.ownsMap Try.prog 3 (plainElem (H := H) Try.prog 3) w.heap.size (fromRows zs zs.length).length (agesD (fromRows zs zs.length)) ∧ Below w.heap.size w W' := by
  have h1 : 1 ≤ n := by omega
  have hmm := @run_makeMap Try.prog
  refine callsIn_of_wp_marks Try.func16 rfl h3 ?_ hro
  simp only [Try.ntmps16, List.size_toArray, List.length_cons, List.length_nil, Nat.reduceAdd, Nat.reduceSub, Array.replicate_succ, Array.replicate_zero, List.push_toArray, List.append_toArray, List.nil_append, List.cons_append]
  gi_wp2_with (gi_at_call 18; refine (all_in F (n - 1) h4 hro _ _ _ _).mono ?_; rintro e w' ⟨rfl, rfl⟩)
  have hm0 := World.ownsMap_made w Try.prog 3 (plainElem (H := H) Try.prog 3)
  have cS := cell_new_c (w.alloc (.map #[] 0)) (.map (some w.heap.size)) 48
  have cN := cell_new_c ((w.alloc (.map #[] 0)).alloc (.cells #[.map (some w.heap.size)] 48)) (.slice (some ⟨b, off, none⟩) zs.length cap) 24
  simp only [World.size_alloc] at cS cN
  have hB0 : Below w.heap.size w (((w.alloc (.map #[] 0)).alloc (.cells #[.map (some w.heap.size)] 48)).alloc (.cells #[.slice (some ⟨b, off, none⟩) zs.length cap] 24)) := (((Below.refl _ w).alloc (Nat.le_refl _) _).alloc (by simp) _).alloc (by simp; omega) _
  refine wpIn_rangeFunc_ownG hro h1 (gf := 29) (lb := #[.pointer (some ⟨w.heap.size + 1 + 1, 0, none⟩)]) rfl h5 (enters_of Try.func29 (by kernel_rfl) rfl)
    (all_stops F (n - 1) h5 hro (by omega) (w.heap.size + 1 + 1) w.heap.size b off cap zs hz hzs _ (by simp) (by simp; omega) hb cN.1 (hI.below hB0 hb)) belowK_t (belowK_b (by simp; omega)) (Below.refl _ _) (fun _ => rfl)
    (fun pre W => (W.cell? ⟨w.heap.size + 1, 0, none⟩ = some (.map (some w.heap.size)) ∧ W.ownsMap Try.prog 3 (plainElem (H := H) Try.prog 3) w.heap.size pre.length (agesD pre)) ∧ Below w.heap.size w W)
    (fun _ _ _ => False)
    (OwnFrom.and (fun s A B row hs hg hr => ⟨cell_kept hs.1 hg (fun r e => (hr r e).2), hs.2.kept hg (fun e => by have := (hr _ e.symm).1; simp at this; omega)⟩) (ownFrom_below (Nat.le_refl _) (by simp; omega)))
    (fun _ _ _ _ _ hs _ _ => hs)
    ⟨⟨cell_alloc_c _ cS.1, (hm0.alloc _).alloc _⟩, hB0⟩
    (fun x => { tmps := #[.slice (some ⟨b, off, none⟩) zs.length cap, undef, .map none, .pointer (some ⟨w.heap.size + 1, 0, none⟩), .int .i64 (x.1.1 : Int), .int .i64 x.2.1, .map (some w.heap.size), .slice (some ⟨b, off, none⟩) zs.length cap, .func (.func 29) #[] #[.pointer (some ⟨w.heap.size + 1 + 1, 0, none⟩)], .int .i64 (x.1.1 : Int), .int .i64 x.2.1, undef, undef, undef, undef], defers := [] }) ?assign ?body ?done ?stop
  case assign =>
    intro l x W K hK
    gi_wp2
    exact hK
  case body =>
    rintro l pre x W ⟨⟨hc, hown⟩, hB⟩ hlt
    gi_wp2_with (gi_at_mapUpdate; refine wpListIn_mapUpdate_own _ rfl _ _ _ 48 rfl 3 3 (Maps.int_keyed Try.underlying3) Try.underlying48 _ w.heap.size pre.length _ rfl hown (by omega) _ _ _ rfl rfl (Maps.keyOf_int_mk Try.underlying3 x.2.2) _ [] (plainElem_int Try.underlying3 x.1.2) ?_; intro w1 hown1 hgrow1)
    obtain ⟨es, ck, hh, _⟩ := hown
    exact ⟨KeepsFrom.of_grownBy hgrow1 (fun j e => by cases e; simp; omega), (Below.refl _ W).grown hgrow1 hB.size (fun k e => by cases e; exact Nat.le_refl _),
      ⟨cell_kept hc hgrow1 (fun r e => by cases e; exact ⟨_, hh, rfl⟩), by rw [agesD_snoc, List.length_append]; exact hown1⟩, hB.grown hgrow1 hB.size (fun k e => by cases e; exact Nat.le_refl _)⟩
  case done =>
    rintro D ys W hD rfl ⟨⟨hc, hown⟩, hB⟩ hK
    gi_wp2
    refine ⟨by simp, .inl ⟨_, _, rfl, run_takeDeferred hK, ?_⟩⟩
    exact ⟨_, results_tmp rfl _ _ _, rfl, hown.kept (grownBy_putObj' _ D _) (fun e => by cases e; simp at hD; omega), hB.trans (belowK_b (w := w) (Nat.le_refl _) W D _ _ (by simp at hD; omega) hK rfl rfl)⟩
  case stop =>
    rintro D c pre W _ _ h _
    exact h.elim
end Go.Proofs.Ytolnhkpckbgmgaa
end
section
/- Generations: Check, for lists that are valid. -/
set_option linter.unusedSimpArgs false
set_option linter.unusedVariables false
namespace Go.Proofs.Ytolnhkpckbgmgaa
open Go.RowKit Go.Shelf
attribute [local go_sem] Oper.semAt_some
theorem frozen_alloc_c {W : World} {a : Addr} {v : Value} (o : Obj) (h : W.cell? a = some v) (hf : W.frozen? a = false) : (W.alloc o).frozen? a = false := (frozen_kept h (World.grownBy_alloc W o none) (fun r e => by cases e)).trans hf
theorem below_keep {n : Nat} {A B : World} (h : Below n A B) {a : Addr} (ha : a.block < n) : B.cell? a = A.cell? a ∧ B.frozen? a = A.frozen? a := by
  have := h.block a.block ha
  simp [World.cell?, World.frozen?, this]
def okFr (x : Int) : Prop := 0 ≤ x ∧ x < 256
set_option maxHeartbeats 1000000 in
theorem isFrame_in (F : Fence) (n : Nat) (hf : F.fn 15) (hro : F.round = none) (x : Int) (w : World) :
    CallsIn F n Try.prog 15 #[.int .i64 x] w fun e w' => e = .returned (.bool (decide (0 ≤ x) && decide (x < 256))) ∧ w' = w := by
  refine callsIn_of_wp Try.func15 rfl hf ?_ hro
  simp only [Try.ntmps15, List.size_toArray, List.length_cons, List.length_nil, Nat.reduceAdd, Nat.reduceSub, Array.replicate_succ, Array.replicate_zero, List.push_toArray, List.append_toArray, List.nil_append, List.cons_append]
  by_cases h0 : 0 ≤ x
  · by_cases h1 : x < 256
    · gi_wp2
      go_ret
      simp [h0, h1]
    · gi_wp2
      go_ret
      simp [h0, h1]
  · gi_wp2
    go_ret
    simp
    omega
set_option maxRecDepth 100000 in
set_option maxHeartbeats 600000 in
theorem Check_in (F : Fence) (n : Nat) (h2 : F.fn 14) (h6 : F.fn 15) (h3 : F.fn 16) (h4 : F.fn 18) (h5 : F.fn 29) (hro : F.round = none) (hn : 5 ≤ n) (b off cap : Nat) (zs : List (List I64)) (hz : zs.length = 4) (hzs : ∀ z ∈ zs, z.length ≤ 1000000) (hlen : (fromRows zs zs.length).length ≤ maxLen) (w : World) (hb : b < w.heap.size) (hI : RowsAt w.heap.size w b off zs)
    (hok : ∀ x ∈ fromRows zs zs.length, okFr x.2.1) (hdi : Maps.size (agesD (H := Unit) (fromRows zs zs.length)) = (fromRows zs zs.length).length) :
    CallsIn F n Try.prog 14 #[.slice (some ⟨b, off, none⟩) zs.length cap] w fun e W' => e = .returned (.int .i64 0) ∧ Below w.heap.size w W' := by
  have h1 : 1 ≤ n := by omega
  refine callsIn_of_wp_marks Try.func14 rfl h2 ?_ hro
  simp only [Try.ntmps14, List.size_toArray, List.length_cons, List.length_nil, Nat.reduceAdd, Nat.reduceSub, Array.replicate_succ, Array.replicate_zero, List.push_toArray, List.append_toArray, List.nil_append, List.cons_append]
  rw [hz]
  gi_wp2_with (gi_at_call 18; refine (all_in F (n - 1) h4 hro _ _ _ _).mono ?_; rintro e w' ⟨rfl, rfl⟩)
  have c0 := cell_new_c w (.int .i64 0) 3
  have c1 := cell_new_c (w.alloc (.cells #[.int .i64 0] 3)) (.int .i64 0) 3
  have cN := cell_new_c ((w.alloc (.cells #[.int .i64 0] 3)).alloc (.cells #[.int .i64 0] 3)) (.slice (some ⟨b, off, none⟩) 4 cap) 24
  simp only [World.size_alloc] at c1 cN
  have hB0 : Below w.heap.size w (((w.alloc (.cells #[.int .i64 0] 3)).alloc (.cells #[.int .i64 0] 3)).alloc (.cells #[.slice (some ⟨b, off, none⟩) 4 cap] 24)) := (((Below.refl _ w).alloc (Nat.le_refl _) _).alloc (by simp) _).alloc (by simp; omega) _
  refine wpIn_rangeFunc_ownG hro h1 (gf := 29) (lb := #[.pointer (some ⟨w.heap.size + 1 + 1, 0, none⟩)]) rfl h5 (enters_of Try.func29 (by kernel_rfl) rfl)
    (all_stops F (n - 1) h5 hro (by omega) (w.heap.size + 1 + 1) w.heap.size b off cap zs (by omega) hzs _ (by simp) (by simp; omega) hb (by rw [hz]; exact cN.1) (hI.below hB0 hb)) belowK_t (belowK_b (by simp; omega)) (Below.refl _ _) (fun _ => rfl)
    (fun pre W => ((W.cell? ⟨w.heap.size, 0, none⟩ = some (.int .i64 0) ∧ W.frozen? ⟨w.heap.size, 0, none⟩ = false) ∧ (W.cell? ⟨w.heap.size + 1, 0, none⟩ = some (.int .i64 pre.length) ∧ W.frozen? ⟨w.heap.size + 1, 0, none⟩ = false)) ∧ Below w.heap.size w W)
    (fun _ pre _ => ∃ x ∈ pre, ¬ okFr x.2.1)
    (OwnFrom.and (fun s A B row hs hg hr => ⟨⟨cell_kept hs.1.1 hg (fun r e => (hr r e).2), (frozen_kept hs.1.1 hg (fun r e => (hr r e).2)).trans hs.1.2⟩, cell_kept hs.2.1 hg (fun r e => (hr r e).2), (frozen_kept hs.2.1 hg (fun r e => (hr r e).2)).trans hs.2.2⟩) (ownFrom_below (Nat.le_refl _) (by simp; omega)))
    (fun _ _ _ _ _ hs _ _ => hs)
    ⟨⟨⟨cell_alloc_c _ (cell_alloc_c _ c0.1), frozen_alloc_c _ (cell_alloc_c _ c0.1) (frozen_alloc_c _ c0.1 c0.2)⟩, cell_alloc_c _ c1.1, frozen_alloc_c _ c1.1 c1.2⟩, hB0⟩
    (fun x => { tmps := #[.slice (some ⟨b, off, none⟩) 4 cap, undef, .pointer (some ⟨w.heap.size, 0, none⟩), .pointer (some ⟨w.heap.size + 1, 0, none⟩), undef, .int .i64 x.2.1, .slice (some ⟨b, off, none⟩) 4 cap, .int .i64 4, .bool false, .slice (some ⟨b, off, none⟩) 4 cap, .func (.func 29) #[] #[.pointer (some ⟨w.heap.size + 1 + 1, 0, none⟩)], .int .i64 (x.1.1 : Int), .int .i64 x.2.1, undef, undef, undef, undef, undef, undef, undef, undef, undef, undef], defers := [] }) ?assign ?body ?done ?stop
  case assign =>
    intro l x W K hK
    gi_wp2
    exact hK
  case body =>
    rintro l pre x W ⟨⟨⟨hc0, hf0⟩, hc1, hf1⟩, hB⟩ hlt
    have hn1 : 1 ≤ n - 1 - 1 := by omega
    by_cases hx : okFr x.2.1
    · obtain ⟨hx0, hx1⟩ := hx
      gi_wp2
      refine (CallsIn.inRound l (isFrame_in F (n - 1 - 1 - 1) h6 hro x.2.1 W)).mono ?_
      rintro e w' ⟨rfl, rfl⟩
      have hd0 : decide (0 ≤ x.2.1) = true := decide_eq_true hx0
      have hd1 : decide (x.2.1 < 256) = true := decide_eq_true hx1
      gi_wp2
      have hpl : wrap64 ((pre.length : Int) + 1) = ((pre ++ [x]).length : Int) := by
        have hm : maxLen ≤ 9223372036854775807 := by decide
        rw [IntWalk.wrap64_in _ (by constructor <;> omega), List.length_append]; rfl
      rw [hpl]
      exact ⟨(KeepsOthers.setCell _ _ _).from _, (Below.refl w.heap.size w').setCell (p := ⟨w.heap.size + 1, 0, none⟩) (Nat.le_succ _) _,
        ⟨⟨(World.cell?_setCell_far w' ⟨w.heap.size + 1, 0, none⟩ ⟨w.heap.size, 0, none⟩ _ (Nat.succ_ne_self _)).trans hc0, by rw [World.frozen?_setCell]; exact hf0⟩, World.cell?_setCell_same' _ _ _ (by rw [hc1]; rfl), by rw [World.frozen?_setCell]; exact hf1⟩, hB.setCell (p := ⟨w.heap.size + 1, 0, none⟩) (Nat.le_succ _) _⟩
    · gi_wp2
      refine (CallsIn.inRound l (isFrame_in F (n - 1 - 1 - 1) h6 hro x.2.1 W)).mono ?_
      rintro e w' ⟨rfl, rfl⟩
      have hd : (decide (0 ≤ x.2.1) && decide (x.2.1 < 256)) = false := by
        rw [← Bool.not_eq_true, Bool.and_eq_true, decide_eq_true_iff, decide_eq_true_iff]; exact hx
      rw [hd]
      gi_wp2
      exact ⟨(KeepsOthers.setCell _ _ _).from _, ⟨x, by simp, hx⟩⟩
  case done =>
    rintro D ys W hD rfl ⟨⟨⟨hc0, hf0⟩, hc1, hf1⟩, hB⟩ hK
    gi_wp2
    have hmx : Try.prog.follows .mixedOrders = true := by kernel_rfl
    have hag : ∀ W1 : World, Below w.heap.size w W1 → CallsIn F (n - 1) Try.prog 16 #[.slice (some ⟨b, off, none⟩) 4 cap] W1 fun e W' => e = .returned (.map (some W1.heap.size)) ∧ (Builtin.len_ #[48] 3 #[.map (some W1.heap.size)]).run Try.prog W' = .ok (.int .i64 (fromRows zs zs.length).length) W' ∧ Below W1.heap.size W1 W' := fun W1 h => by
      have := ages_in (H := Unit) F (n - 1) h3 h4 h5 hro (by omega) b off cap zs (by omega) hzs hlen W1 (Nat.lt_of_lt_of_le hb h.size) ((hI.below h hb).mono h.size)
      have e4 : (Value.slice (some ⟨b, off, none⟩) zs.length cap) = .slice (some ⟨b, off, none⟩) 4 cap := by rw [hz]
      rw [e4] at this
      refine this.mono ?_
      rintro e W' ⟨h1, h2, h3⟩
      have h4 := h2.len Try.underlying48 3
      rw [hdi] at h4
      exact ⟨h1, h4, h3⟩
    have hBd : Below w.heap.size w W.drew := hB.trans ((Below.refl _ _).drew)
    generalize (fromRows zs zs.length).length = m at *
    have hDW : D < W.heap.size := (Array.getElem?_eq_some_iff.1 hK).1
    have hD2 : w.heap.size + 2 < W.heap.size := by simp at hD; omega
    gi_region_with_o (gi_at_call 16; refine (hag _ hBd).mono ?_; rintro e w' ⟨rfl, hL, hB2⟩; have hL : (Builtin.len_ #[48] 3 #[.map (some W.heap.size)]).run Try.prog w' = .ok (.int .i64 m) w' := hL; have hc0' := (below_keep hB2 (a := ⟨w.heap.size, 0, none⟩) (show w.heap.size < W.heap.size by omega)).1.trans hc0; have hf0' := (below_keep hB2 (a := ⟨w.heap.size, 0, none⟩) (show w.heap.size < W.heap.size by omega)).2.trans hf0; have hc1' := (below_keep hB2 (a := ⟨w.heap.size + 1, 0, none⟩) (show w.heap.size + 1 < W.heap.size by omega)).1.trans hc1; have hK' := (hB2.block D (show D < W.heap.size from hDW)).trans hK)
    all_goals gi_wp2
    all_goals
      have hK2 := (KeepsOthers.setCell w' ⟨w.heap.size, 0, none⟩ (.int .i64 0)).same D _ hK' rfl
      refine ⟨by simp, .inl ⟨_, _, rfl, run_takeDeferred hK2, ?_⟩⟩
      have hc5 := cell_kept (World.cell?_setCell_same' w' ⟨w.heap.size, 0, none⟩ (.int .i64 0) (by rw [hc0']; rfl)) (grownBy_putObj' _ D (.deferred none)) (fun r e => by cases e; exact ⟨_, hK2, rfl⟩)
      refine ⟨.int .i64 0, ?_, rfl, hBd.trans ((hB2.mono (show w.heap.size ≤ W.heap.size by omega)).trans (((Below.refl w.heap.size w').setCell (p := ⟨w.heap.size, 0, none⟩) (Nat.le_refl _) _).trans (belowK_b (w := w) (Nat.le_refl _) _ D _ _ (by simp at hD; omega) hK2 rfl rfl)))⟩
      simp [results, Try.f14, go_sem, hc5]
  case stop =>
    rintro D c pre W hD hp ⟨x, hx, hnx⟩ _
    exact absurd (hok x (hp.subset hx)) hnx
end Go.Proofs.Ytolnhkpckbgmgaa
end
section
/- Generations: rows of the call's own, in a block of their own; clone, for any lists. -/
set_option linter.unusedSimpArgs false
set_option linter.unusedVariables false
namespace Go.Proofs.Ytolnhkpckbgmgaa
open Go.RowKit Go.Shelf
attribute [local go_sem] Oper.semAt_some
def iv (x : I64) : Value := .int .i64 x.1
theorem infoIv : (Try.prog.info? 3).map (fun i => (i.zero, i.size, i.bytes)) = some (some (.int .i64 0), 1, 8) := by kernel_rfl
theorem ltOfCell {W : World} {a : Addr} {v : Value} (h : W.cell? a = some v) : a.block < W.heap.size := by
  rcases Nat.lt_or_ge a.block W.heap.size with h1 | h1
  · exact h1
  · exfalso
    have : W.heap[a.block]? = none := Array.getElem?_eq_none h1
    simp [World.cell?, this] at h
theorem grown_setCell (W : World) (b o : Nat) (v : Value) : W.grownBy (W.setCell ⟨b, o, none⟩ v) (some b) :=
  ⟨rfl, rfl, rfl, by simp, fun k _ hk => Below.heap_setCell _ _ _ k (fun e => hk (by rw [e]))⟩
theorem ownsRow_base {w : World} {base base' : Nat} {e : TypeId} {size : Nat} {v : Value} {n : Nat} {xs : List Value} (h : w.ownsRow base e size v n xs) (hb : base' ≤ base) : w.ownsRow base' e size v n xs :=
  ⟨h.1, h.2.imp_right fun ⟨g, cap, cur, a, b, c⟩ => ⟨g, cap, cur, a, Nat.le_trans hb b, c⟩⟩
structure Own4 (W : World) (base r : Nat) (vs : List Value) (zs : List (List I64)) : Prop where
  len : vs.length = zs.length
  lo : base ≤ r
  hi : r < W.heap.size
  box : ∃ cs, W.heap[r]? = some (.cells cs 29 (0, 0)) ∧ cs.toList = vs
  own : ∀ (j : Nat) (v : Value) (z : List I64), vs[j]? = some v → zs[j]? = some z → W.ownsRow base 3 1 v z.length (z.map iv)
  one : ∀ (j k : Nat) (v u : Value), j ≠ k → vs[j]? = some v → vs[k]? = some u → v.ownBlock = none ∨ v.ownBlock ≠ u.ownBlock
theorem ownsRow_ne_box {W : World} {base r : Nat} {cs : Array Value} (h : W.heap[r]? = some (.cells cs 29 (0, 0))) {v : Value} {n : Nat} {xs : List Value} (ho : W.ownsRow base 3 1 v n xs) : v.ownBlock = none ∨ v.ownBlock ≠ some r := by
  rcases ho.2 with ⟨rfl, _⟩ | ⟨g, cap, cur, rfl, _, hg, _⟩
  · exact .inl rfl
  · refine .inr fun e => ?_
    have : g = r := by simpa [Value.ownBlock] using e
    subst this
    rw [hg] at h
    injection h with h
    injection h with _ h
    exact absurd h (by decide)
theorem Own4.cell {W : World} {base r : Nat} {vs : List Value} {zs : List (List I64)} (h : Own4 W base r vs zs) {j : Nat} {v : Value} (hj : vs[j]? = some v) : W.cell? ⟨r, j, none⟩ = some v ∧ W.frozen? ⟨r, j, none⟩ = false := by
  obtain ⟨cs, hb, rfl⟩ := h.box
  refine ⟨?_, ?_⟩
  · simp only [World.cell?, hb]
    simpa using hj
  · have hlt : j < cs.size := by
      rcases Nat.lt_or_ge j cs.size with h' | h'
      · exact h'
      · rw [List.getElem?_eq_none (by simpa using h')] at hj; cases hj
    simp [World.frozen?, hb]
theorem Own4.kept {W W' : World} {base r : Nat} {vs : List Value} {zs : List (List I64)} (h : Own4 W base r vs zs) {row : Option Nat} (hg : W.grownBy W' row) (hr : row ≠ some r) (hn : ∀ v, v ∈ vs → v.ownBlock = none ∨ v.ownBlock ≠ row) : Own4 W' base r vs zs := by
  obtain ⟨cs, hb, hcs⟩ := h.box
  exact ⟨h.len, h.lo, Nat.lt_of_lt_of_le h.hi hg.size, ⟨cs, (hg.block r h.hi (fun e => hr e.symm)).trans hb, hcs⟩, fun j v z hv hz => (h.own j v z hv hz).kept hg (hn v (List.mem_of_getElem? hv)), h.one⟩
theorem Own4.grown {W W' : World} {base r : Nat} {vs : List Value} {zs : List (List I64)} (h : Own4 W base r vs zs) (hg : W.grownBy W' none) : Own4 W' base r vs zs :=
  h.kept hg (by simp) (fun v _ => by cases v.ownBlock <;> simp)
theorem Own4.alloc {W : World} {base r : Nat} {vs : List Value} {zs : List (List I64)} (h : Own4 W base r vs zs) (o : Obj) : Own4 (W.alloc o) base r vs zs :=
  h.grown (World.grownBy_alloc W o none)
theorem Own4.away {W W' : World} {base r : Nat} {vs : List Value} {zs : List (List I64)} (h : Own4 W base r vs zs) {row : Option Nat} (hg : W.grownBy W' row) (hr : ∀ k, row = some k → ∃ o : Obj, W.heap[k]? = some o ∧ o.isCells = false) : Own4 W' base r vs zs := by
  refine h.kept hg ?_ ?_
  · intro e
    obtain ⟨o, ho, hc⟩ := hr r e
    obtain ⟨cs, hb, _⟩ := h.box
    rw [hb] at ho; cases ho; cases hc
  · intro v hv
    obtain ⟨j, hj⟩ := List.mem_iff_getElem?.1 hv
    have hlt : j < zs.length := by
      rw [← h.len]
      rcases Nat.lt_or_ge j vs.length with h' | h'
      · exact h'
      · rw [List.getElem?_eq_none h'] at hj; cases hj
    rcases (h.own j v _ hj (List.getElem?_eq_getElem hlt)).2 with ⟨rfl, _⟩ | ⟨g, cap, cur, rfl, _, hg2, _⟩
    · exact .inl rfl
    · refine .inr fun e => ?_
      obtain ⟨o, ho, hc⟩ := hr g (by simpa [Value.ownBlock] using e.symm)
      rw [hg2] at ho; cases ho; cases hc
theorem Own4.put {W : World} {base r : Nat} {vs : List Value} {zs : List (List I64)} {cs : Array Value} {j : Nat} {v : Value} {z : List I64}
    (hlen : vs.length = zs.length) (hlo : base ≤ r) (hb : W.heap[r]? = some (.cells cs 29 (0, 0))) (hcs : cs.toList = vs) (hj : j < zs.length)
    (hown : ∀ (k : Nat) (u : Value) (y : List I64), k ≠ j → vs[k]? = some u → zs[k]? = some y → W.ownsRow base 3 1 u y.length (y.map iv)) (hone : ∀ (i k : Nat) (v u : Value), i ≠ k → vs[i]? = some v → vs[k]? = some u → v.ownBlock = none ∨ v.ownBlock ≠ u.ownBlock)
    (hv : W.ownsRow base 3 1 v z.length (z.map iv)) (hne : ∀ (k : Nat) (u : Value), k ≠ j → vs[k]? = some u → (v.ownBlock = none ∨ v.ownBlock ≠ u.ownBlock)) :
    Own4 (W.setCell ⟨r, j, none⟩ v) base r (vs.set j v) (zs.set j z) := by
  have hg := grown_setCell W r j v
  refine ⟨by simp [hlen], hlo, by simpa using (Array.getElem?_eq_some_iff.1 hb).1, ⟨cs.setIfInBounds j v, heap_setCell_same W r j cs _ v hb, by simp [hcs]⟩, ?_, ?_⟩
  · intro k u y hu hy
    by_cases e : k = j
    · subst e
      rw [List.getElem?_set_self (by omega)] at hu hy
      injection hu with hu; injection hy with hy; subst hu hy
      exact hv.kept hg (ownsRow_ne_box hb hv)
    · rw [List.getElem?_set_ne (fun e' => e e'.symm)] at hu hy
      have h1 := hown k u y e hu hy
      exact h1.kept hg (ownsRow_ne_box hb h1)
  · intro i k u u' hik hu hu'
    by_cases e : i = j
    · subst e
      rw [List.getElem?_set_self (by omega)] at hu
      rw [List.getElem?_set_ne hik] at hu'
      injection hu with hu; subst hu
      exact hne k u' (fun e => hik e.symm) hu'
    · rw [List.getElem?_set_ne (fun e' => e e'.symm)] at hu
      by_cases e2 : k = j
      · subst e2
        rw [List.getElem?_set_self (by omega)] at hu'
        injection hu' with hu'; subst hu'
        rcases hne i u e hu with h | h
        · cases hub : u.ownBlock with
          | none => exact .inl rfl
          | some b => right; rw [h]; simp
        · exact .inr (fun e => h e.symm)
      · rw [List.getElem?_set_ne (fun e' => e2 e'.symm)] at hu'
        exact hone i k u u' hik hu hu'
set_option maxRecDepth 100000 in
set_option maxHeartbeats 1000000 in
theorem cloneG_in (F : Fence) (n : Nat) (hf : F.fn 28) (hro : F.round = none) (n₀ : Nat) (v : Value) (z : List I64) (hz : z.length ≤ 1000000) (w : World) (hn : n₀ ≤ w.heap.size) (hI : IntsAt n₀ w v z) :
    CallsIn F n Try.prog 28 #[v] w fun e w' => ∃ v', e = .returned v' ∧ w'.ownsRow w.heap.size 3 1 v' z.length (z.map iv) ∧ Below w.heap.size w w' := by
  obtain ⟨ad, cap, rfl, hc⟩ := hI
  obtain ⟨i0, hi, hz0, hz1, hz2⟩ := info_parts infoIv
  refine callsIn_of_wp Try.func28 rfl hf ?_ hro
  simp only [Try.ntmps28, List.size_toArray, List.length_cons, List.length_nil, Nat.reduceAdd, Nat.reduceSub, Array.replicate_succ, Array.replicate_zero, List.push_toArray, List.append_toArray, List.nil_append, List.cons_append]
  have q : ∀ (w : World) (a : Option Addr) (n c n' c' : Nat), (binOp .eql 29 (.slice a n c) (.slice none n' c')).run Try.prog w = .ok (.bool a.isNone) w := fun w a n c n' c' => Lib.run_eql_slice_nil w _ _ a n c n' c' Try.underlying29
  cases ad with
  | none =>
    have hz0' : z = [] := by
      cases z with
      | nil => rfl
      | cons a z => obtain ⟨b, off, e, _⟩ := hc 0 (by simp); cases e
    subst hz0'
    gi_wp2
    go_ret
    exact ⟨_, rfl, World.ownsRow_nil _ _ _ _, Below.refl _ _⟩
  | some a =>
    gi_wp2_with (gi_at_builtin; refine wpListIn_append_own _ rfl _ _ 29 rfl w.heap.size 3 i0 (.int .i64 0) 1 8 Try.underlying29 hi hz0 hz1 hz2 rfl (by decide) _ _ _ rfl (World.ownsRow_made w #[] 0 (Nat.le_refl _) (Nat.zero_le _) rfl) a z.length cap (z.map iv) rfl ?qc1 ?qc2 ?qc3 ?qc4 ?qc5 ?qc6 ?_)
    case qc1 => simp
    case qc2 =>
      intro j u hj
      have hjz : j < z.length := by
        have := (List.getElem?_eq_some_iff.1 hj).1
        simpa using this
      obtain ⟨b, off, e, hb, hcell⟩ := hc j hjz
      injection e with e; subst e
      rw [Addr.add_lit]
      refine Lib.cell?_alloc_some _ ?_
      rw [hcell]
      rw [List.getElem?_map, List.getElem?_eq_getElem hjz] at hj
      rw [List.getElem?_eq_getElem hjz]
      exact hj
    case qc3 => intro u hu; obtain ⟨x, _, rfl⟩ := List.mem_map.1 hu; rfl
    case qc4 => unfold maxLen; omega
    case qc5 => omega
    case qc6 => simp
    intro v' w1 hown hgrow hnil
    gi_wp2
    go_ret
    refine ⟨v', rfl, by simpa using hown, ?_⟩
    exact ((Below.refl _ w).alloc (Nat.le_refl _) _).grown hgrow (by simp) (by intro k hk; simp [Value.ownBlock] at hk; omega)
theorem ownsRow_slice {W : World} {base : Nat} {e : TypeId} {size : Nat} {v : Value} {n : Nat} {xs : List Value} (h : W.ownsRow base e size v n xs) : ∃ a cap, v = .slice a n cap := by
  rcases h.2 with ⟨rfl, rfl⟩ | ⟨g, cap, cur, rfl, _⟩
  · exact ⟨none, 0, rfl⟩
  · exact ⟨_, cap, rfl⟩
theorem below_grown {w w' : World} (h : Below w.heap.size w w') : w.grownBy w' none := ⟨h.os, h.tape, h.output, h.size, fun k hk _ => h.block k hk⟩
theorem Own4.fresh {W : World} {base r : Nat} {vs : List Value} {zs : List (List I64)} (h : Own4 W base r vs zs) {B : Nat} (hB : W.heap.size ≤ B) {v : Value} (hv : ∀ k, v.ownBlock = some k → B ≤ k) {j : Nat} {u : Value} (hu : vs[j]? = some u) : v.ownBlock = none ∨ v.ownBlock ≠ u.ownBlock := by
  have hlt : j < zs.length := by
    rw [← h.len]
    rcases Nat.lt_or_ge j vs.length with h' | h'
    · exact h'
    · rw [List.getElem?_eq_none h'] at hu; cases hu
  cases hb : v.ownBlock with
  | none => exact .inl rfl
  | some b =>
    right
    intro e
    have h1 := hv b hb
    have h2 := ((h.own j u _ hu (List.getElem?_eq_getElem hlt)).lt b e.symm).2
    omega
def doneTo (zs : List (List I64)) (k : Nat) : List (List I64) := zs.take k ++ List.replicate (zs.length - k) []
theorem doneTo_len (zs : List (List I64)) {k : Nat} (hk : k ≤ zs.length) : (doneTo zs k).length = zs.length := by simp [doneTo]; omega
theorem doneTo_all (zs : List (List I64)) : doneTo zs zs.length = zs := by simp [doneTo]
theorem doneTo_succ (zs : List (List I64)) {k : Nat} (hk : k < zs.length) : (doneTo zs k).set k (zs[k]?.getD []) = doneTo zs (k + 1) := by
  unfold doneTo
  have e : zs.length - k = (zs.length - (k + 1)) + 1 := by omega
  have hl : (zs.take k).length = k := by simp; omega
  rw [e, List.replicate_succ, List.set_append_right _ _ (by omega), hl, Nat.sub_self, List.set_cons_zero, List.getElem?_eq_getElem hk, Option.getD_some]
  rw [List.take_add_one, List.getElem?_eq_getElem hk, Option.toList_some, List.append_assoc]
  rfl
set_option maxRecDepth 100000 in
theorem mk4v (w : World) : (Instr.makeSlice 24 (.int .i64 4) (.int .i64 4)).run Try.prog w = .ok (.slice (some ⟨w.heap.size, 0, none⟩) 4 4) (w.alloc (.cells #[.slice none 0 0, .slice none 0 0, .slice none 0 0, .slice none 0 0] 29)) := by kernel_rfl
def nils4 : List Value := [.slice none 0 0, .slice none 0 0, .slice none 0 0, .slice none 0 0]
theorem own4_new (w : World) : Own4 (w.alloc (.cells #[.slice none 0 0, .slice none 0 0, .slice none 0 0, .slice none 0 0] 29)) w.heap.size w.heap.size nils4 [[], [], [], []] := by
  refine ⟨rfl, Nat.le_refl _, by simp, ⟨_, World.alloc_heap_new w _, rfl⟩, ?_, ?_⟩
  · intro j v z hv hz
    have hj : j < 4 := by
      rcases Nat.lt_or_ge j 4 with h | h
      · exact h
      · rw [List.getElem?_eq_none (by simpa [nils4] using h)] at hv; cases hv
    obtain rfl | rfl | rfl | rfl : j = 0 ∨ j = 1 ∨ j = 2 ∨ j = 3 := by omega
    all_goals simp [nils4] at hv hz; subst hv hz; exact World.ownsRow_nil _ _ _ _
  · intro j k v u _ hv _
    have hj : j < 4 := by
      rcases Nat.lt_or_ge j 4 with h | h
      · exact h
      · rw [List.getElem?_eq_none (by simpa [nils4] using h)] at hv; cases hv
    obtain rfl | rfl | rfl | rfl : j = 0 ∨ j = 1 ∨ j = 2 ∨ j = 3 := by omega
    all_goals simp [nils4] at hv; subst hv; exact .inl rfl
theorem Own4.mono {W : World} {base base' r : Nat} {vs : List Value} {zs : List (List I64)} (h : Own4 W base r vs zs) (hb : base' ≤ base) : Own4 W base' r vs zs :=
  ⟨h.len, Nat.le_trans hb h.lo, h.hi, h.box, fun j v z hv hz => ownsRow_base (h.own j v z hv hz) hb, h.one⟩
theorem Own4.store {W : World} {base r : Nat} {vs : List Value} {zs : List (List I64)} (h : Own4 W base r vs zs) {j : Nat} (hj : j < zs.length) {v : Value} {z : List I64} (hv : W.ownsRow base 3 1 v z.length (z.map iv))
    (hne : ∀ (k : Nat) (u : Value), k ≠ j → vs[k]? = some u → (v.ownBlock = none ∨ v.ownBlock ≠ u.ownBlock)) : Own4 (W.setCell ⟨r, j, none⟩ v) base r (vs.set j v) (zs.set j z) := by
  obtain ⟨cs, hb, hcs⟩ := h.box
  exact Own4.put h.len h.lo hb hcs hj (fun k u y _ hu hy => h.own k u y hu hy) h.one hv hne
set_option maxRecDepth 100000 in
set_option maxHeartbeats 1000000 in
theorem cloneV_in (F : Fence) (n : Nat) (h1 : F.fn 17) (h2 : F.fn 28) (hro : F.round = none) (hn : 2 ≤ n) (b off cap : Nat) (zs : List (List I64)) (hz : zs.length = 4) (hzs : ∀ z ∈ zs, z.length ≤ 1000000) (w : World) (hb : b < w.heap.size) (hI : RowsAt w.heap.size w b off zs) :
    CallsIn F n Try.prog 17 #[.slice (some ⟨b, off, none⟩) 4 cap] w fun e W' => ∃ vs, e = .returned (.slice (some ⟨w.heap.size, 0, none⟩) 4 4) ∧ Own4 W' w.heap.size w.heap.size vs zs ∧ Below w.heap.size w W' := by
  have hn1 : 1 ≤ n := by omega
  refine callsIn_of_wp Try.func17 rfl h1 ?_ hro
  simp only [Try.ntmps17, List.size_toArray, List.length_cons, List.length_nil, Nat.reduceAdd, Nat.reduceSub, Array.replicate_succ, Array.replicate_zero, List.push_toArray, List.append_toArray, List.nil_append, List.cons_append]
  have hmk := mk4v w
  have hnew := own4_new w
  have hd0 : doneTo zs 0 = [[], [], [], []] := by simp [doneTo, hz, List.replicate]
  gi_wp2
  gi_loopw [10] (fun i wr => ∃ (k : Nat) (vs : List Value), k ≤ 4 ∧ i = .int .i64 k ∧ Own4 wr w.heap.size w.heap.size vs (doneTo zs k) ∧ Below w.heap.size w wr)
    (fun i _ => 4 - (intOf i).toNat)
  case atStart => exact ⟨0, nils4, by omega, rfl, by rw [hd0]; exact hnew, (Below.refl _ w).alloc (Nat.le_refl _) _⟩
  case round =>
    obtain ⟨k, vs, hk, rfl, ho, hB⟩ := hrel
    by_cases hlt : k < 4
    · obtain ⟨sv, h1, hsv⟩ := hI.below hB hb k (by omega)
      have hlz : (zs[k]?.getD []).length ≤ 1000000 := by
        rw [List.getElem?_eq_getElem (show k < zs.length by omega)]
        exact hzs _ (List.getElem_mem _)
      have hdl := doneTo_len zs (k := k) (by omega)
      have hds := doneTo_succ zs (k := k) (by omega)
      generalize zs[k]?.getD [] = z at hsv hlz hds
      have hcall : CallsIn F (n - 1) Try.prog 28 #[sv] wr fun e w' => ∃ a' c' u vs', e = .returned (.slice a' z.length c') ∧ w'.cell? ⟨w.heap.size, k, none⟩ = some u ∧ w'.frozen? ⟨w.heap.size, k, none⟩ = false ∧
          Own4 (w'.setCell ⟨w.heap.size, k, none⟩ (.slice a' z.length c')) w.heap.size w.heap.size vs' (doneTo zs (k + 1)) ∧ Below w.heap.size w w' := by
        refine (cloneG_in F (n - 1) h2 hro w.heap.size sv z hlz _ hB.size hsv).mono ?_
        rintro e w' ⟨v', rfl, hown, hB2⟩
        obtain ⟨a', c', rfl⟩ := ownsRow_slice hown
        have ho2 := ho.grown (below_grown hB2)
        have hk4 : k < vs.length := by rw [ho.len]; omega
        have hc := ho2.cell (List.getElem?_eq_getElem hk4)
        exact ⟨a', c', _, _, rfl, hc.1, hc.2, by rw [← hds]; exact ho2.store (by omega) (ownsRow_base hown hB.size) (fun i u hi hu => ho.fresh (Nat.le_refl _) (fun b hb => (hown.lt b hb).1) hu), hB.trans (hB2.mono hB.size)⟩
      gi_wp2_with (gi_at_call 28; refine hcall.mono ?_; clear hcall; rintro e w' ⟨a', c', u, vs', rfl, hc1, hc2, ho2, hB2⟩)
      exact ⟨⟨k + 1, vs', by omega, by simp, ho2, hB2.setCell (p := ⟨w.heap.size, k, none⟩) (Nat.le_refl _) _⟩, by simp [intOf]; omega⟩
    · obtain rfl : k = 4 := by omega
      rw [← hz, doneTo_all] at ho
      gi_wp2
      go_ret
      exact ⟨_, rfl, ho, hB⟩
end Go.Proofs.Ytolnhkpckbgmgaa
end
section
/- Generations: Add, for any lists. -/
set_option linter.unusedSimpArgs false
set_option linter.unusedVariables false
namespace Go.Proofs.Ytolnhkpckbgmgaa
open Go.RowKit Go.Shelf
attribute [local go_sem] Oper.semAt_some
/-! ### The map of ages -/
theorem ages_tidy {H : Type} (rows : List (K64 × I64)) : Maps.Tidy (agesD (H := H) rows) := by
  unfold agesD
  suffices h : ∀ (m : DataW H), Maps.Tidy m → Maps.Tidy (rows.foldl (fun D x => D.put (.int .i64 x.2.1) (.lit (.int .i64 (x.1.1 : Int)))) m) from h _ Maps.tidy_empty
  induction rows with
  | nil => exact fun m h => h
  | cons x r ih => exact fun m h => ih _ (h.put (by simp [WideAt.IsKeyLit]) _)
theorem ages_has {H : Type} (rows : List (K64 × I64)) (f : Int) : Maps.has (agesD (H := H) rows) (.int .i64 f) = rows.any (fun x => x.2.1 == f) := by
  unfold agesD
  suffices h : ∀ (m : DataW H), Maps.Tidy m → Maps.has (rows.foldl (fun D x => D.put (.int .i64 x.2.1) (.lit (.int .i64 (x.1.1 : Int)))) m) (.int .i64 f) = (Maps.has m (.int .i64 f) || rows.any (fun x => x.2.1 == f)) from by
    rw [h _ Maps.tidy_empty]; simp [Maps.has]
  induction rows with
  | nil => intro m h; simp
  | cons x r ih =>
    intro m h
    rw [List.foldl_cons, ih _ (h.put (by simp [WideAt.IsKeyLit]) _), List.any_cons, ← Bool.or_assoc]
    congr 1
    by_cases e : x.2.1 = f
    · rw [e, Maps.has_put_same h.isMap (by simp [WideAt.IsKeyLit])]; simp
    · rw [Maps.has_put_other (by intro e'; injection e' with _ e'; exact e e'.symm)]; simp [e]
theorem ages_size {H : Type} (rows : List (K64 × I64)) (hn : (rows.map fun x => x.2.1).Nodup) : Maps.size (agesD (H := H) rows) = rows.length := by
  suffices h : ∀ (l pre : List (K64 × I64)), rows = pre ++ l → Maps.size (agesD (H := H) pre) = pre.length → Maps.size (agesD (H := H) (pre ++ l)) = (pre ++ l).length from by
    have := h rows [] rfl rfl
    simpa using this
  intro l
  induction l with
  | nil => intro pre _ h; simpa using h
  | cons x r ih =>
    intro pre e h
    have := ih (pre ++ [x]) (by rw [e]; simp) (by
      rw [agesD_snoc, Maps.size_put (ages_tidy pre), ages_has, h]
      have hx : (pre.any fun y => y.2.1 == x.2.1) = false := by
        rw [List.any_eq_false]
        intro y hy
        rw [e, List.map_append, List.nodup_append] at hn
        have := hn.2.2 y.2.1 (List.mem_map_of_mem hy) x.2.1 (by simp)
        simpa using this
      rw [hx]; simp)
    simpa using this
theorem rows_vals (zs : List (List I64)) (k : Nat) : (fromRows zs k).map (fun x => x.2.1) = ((zs.take k).flatten).map (fun x => x.1) := by
  induction k with
  | zero => simp [fromRows]
  | succ k ih =>
    rw [fromRows_succ, List.map_append, ih, List.take_add_one, List.flatten_append, List.map_append]
    congr 1
    cases hk : zs[k]? with
    | none => simp [fromRow]
    | some z =>
      simp only [Option.getD_some, Option.toList_some, List.flatten_cons, List.flatten_nil, List.append_nil, fromRow, List.map_map]
      refine List.ext_getElem (by simp) fun j h1 h2 => ?_
      have hj : j < z.length := by simpa using h2
      simp [List.getElem?_eq_getElem hj]
structure Gens (zs : List (List I64)) : Prop where
  len : zs.length = 4
  fr : ∀ x ∈ zs.flatten, okFr x.1
  nd : (zs.flatten.map fun x => x.1).Nodup
  small : zs.flatten.length ≤ 1000
theorem Gens.vals {zs : List (List I64)} (h : Gens zs) : (fromRows zs zs.length).map (fun x => x.2.1) = zs.flatten.map (fun x => x.1) := by
  rw [rows_vals, List.take_length]
theorem Gens.rlen {zs : List (List I64)} (h : Gens zs) : (fromRows zs zs.length).length = zs.flatten.length := by
  have := congrArg List.length h.vals
  simpa only [List.length_map] using this
theorem Gens.row {zs : List (List I64)} (h : Gens zs) : ∀ z ∈ zs, z.length ≤ 1000 := fun z hz =>
  Nat.le_trans (List.Sublist.length_le (List.sublist_flatten_of_mem hz)) h.small
theorem Gens.ok {zs : List (List I64)} (h : Gens zs) : ∀ x ∈ fromRows zs zs.length, okFr x.2.1 := fun x hx => by
  have h1 : x.2.1 ∈ zs.flatten.map (fun x => x.1) := by rw [← h.vals]; exact List.mem_map_of_mem (f := fun x : K64 × I64 => x.2.1) hx
  obtain ⟨y, hy, e⟩ := List.mem_map.1 h1
  rw [← e]; exact h.fr y hy
theorem Gens.size {zs : List (List I64)} (h : Gens zs) {H : Type} : Maps.size (agesD (H := H) (fromRows zs zs.length)) = (fromRows zs zs.length).length := ages_size _ (by rw [h.vals]; exact h.nd)
theorem Gens.has {zs : List (List I64)} (h : Gens zs) {H : Type} (f : Int) : Maps.has (agesD (H := H) (fromRows zs zs.length)) (.int .i64 f) = decide (f ∈ zs.flatten.map fun x => x.1) := by
  rw [ages_has, ← h.vals]
  rw [Bool.eq_iff_iff]
  simp
/-! ### Own rows -/
theorem Own4.mem {W : World} {base r : Nat} {vs : List Value} {zs : List (List I64)} (h : Own4 W base r vs zs) {j : Nat} (hj : j < zs.length) : ∃ v, vs[j]? = some v := ⟨_, List.getElem?_eq_getElem (by rw [h.len]; exact hj)⟩
theorem Own4.push {W W' : World} {base r : Nat} {vs : List Value} {zs : List (List I64)} (h : Own4 W base r vs zs) {j : Nat} {v v' : Value} {z : List I64} {x : I64} (hv : vs[j]? = some v) (hz : zs[j]? = some z)
    (hg : W.grownBy W' v.ownBlock) (hown : W'.ownsRow base 3 1 v' (z.length + 1) (z.map iv ++ [iv x])) (hat : v'.ownBlock = v.ownBlock ∨ v'.ownBlock = some W.heap.size) :
    W'.cell? ⟨r, j, none⟩ = some v ∧ W'.frozen? ⟨r, j, none⟩ = false ∧ Own4 (W'.setCell ⟨r, j, none⟩ v') base r (vs.set j v') (zs.set j (z ++ [x])) := by
  have hc := h.cell hv
  obtain ⟨cs, hb, hcs⟩ := h.box
  have hne := ownsRow_ne_box hb (h.own j v z hv hz)
  have hr : some r ≠ v.ownBlock := by
    rcases hne with h1 | h1
    · rw [h1]; simp
    · exact fun e => h1 e.symm
  have hb2 := (hg.block r h.hi hr).trans hb
  have hc2 : W'.cell? ⟨r, j, none⟩ = some v := hg.cell (a := ⟨r, j, none⟩) hc.1 hr
  have hf2 : W'.frozen? ⟨r, j, none⟩ = false := (World.frozen?_of_block (a := ⟨r, j, none⟩) (hg.block r h.hi hr)).trans hc.2
  have hjz : j < zs.length := by
    rcases Nat.lt_or_ge j zs.length with h' | h'
    · exact h'
    · rw [List.getElem?_eq_none h'] at hz; cases hz
  refine ⟨hc2, hf2, ?_⟩
  have hap : (z ++ [x]).map iv = z.map iv ++ [iv x] := by simp
  refine Own4.put h.len h.lo hb2 hcs hjz ?_ h.one (by rw [hap]; simpa using hown) ?_
  · intro k u y hk hu hy
    exact (h.own k u y hu hy).kept hg (h.one k j u v hk hu hv)
  · intro k u hk hu
    rcases hat with e | e
    · have := h.one j k v u (fun e => hk e.symm) hv hu
      rw [e]; exact this
    · right
      intro e2
      rw [e] at e2
      have hky : k < zs.length := by
        rw [← h.len]
        rcases Nat.lt_or_ge k vs.length with h' | h'
        · exact h'
        · rw [List.getElem?_eq_none h'] at hu; cases hu
      have := ((h.own k u _ hu (List.getElem?_eq_getElem hky)).lt _ e2.symm).2
      omega
set_option maxRecDepth 100000 in
set_option maxHeartbeats 2000000 in
theorem AddV_in (F : Fence) (n : Nat) (h0 : F.fn 6) (h2 : F.fn 14) (h6 : F.fn 15) (h3 : F.fn 16) (h4 : F.fn 18) (h5 : F.fn 29) (h7 : F.fn 17) (h8 : F.fn 28) (hro : F.round = none) (hn : 6 ≤ n) (b off cap : Nat) (zs : List (List I64)) (hG : Gens zs) (w : World) (hb : b < w.heap.size) (hI : RowsAt w.heap.size w b off zs)
    (j : Nat) (hj : j < 4) (f : I64) (hf : okFr f.1) (hnew : f.1 ∉ zs.flatten.map fun x => x.1) :
    CallsIn F n Try.prog 6 #[.slice (some ⟨b, off, none⟩) 4 cap, .int .i64 j, .int .i64 f.1] w fun e W' => ∃ r vs, e = .returned (.tuple #[.slice (some ⟨r, 0, none⟩) 4 4, .int .i64 0]) ∧ Own4 W' w.heap.size r vs (zs.set j ((zs[j]?.getD []) ++ [f])) ∧ Below w.heap.size w W' := by
  have hz := hG.len
  have hrows : ∀ z ∈ zs, z.length ≤ 1000000 := fun z hz => Nat.le_trans (hG.row z hz) (by decide)
  have hlen : (fromRows zs zs.length).length ≤ maxLen := by
    rw [hG.rlen]; have := hG.small; unfold maxLen; omega
  have e4 : (Value.slice (some ⟨b, off, none⟩) zs.length cap) = .slice (some ⟨b, off, none⟩) 4 cap := by rw [hz]
  have hck : CallsIn F (n - 1) Try.prog 14 #[.slice (some ⟨b, off, none⟩) 4 cap] w fun e W' => e = .returned (.int .i64 0) ∧ Below w.heap.size w W' := by
    have := Check_in F (n - 1) h2 h6 h3 h4 h5 hro (by omega) b off cap zs hz hrows hlen w hb hI hG.ok hG.size
    rwa [e4] at this
  have hag : ∀ W1 : World, Below w.heap.size w W1 → CallsIn F (n - 1) Try.prog 16 #[.slice (some ⟨b, off, none⟩) 4 cap] W1 fun e W' => e = .returned (.map (some W1.heap.size)) ∧ W'.ownsMap Try.prog 3 (plainElem (H := Unit) Try.prog 3) W1.heap.size (fromRows zs zs.length).length (agesD (fromRows zs zs.length)) ∧ Below W1.heap.size W1 W' := fun W1 h => by
    have := ages_in (H := Unit) F (n - 1) h3 h4 h5 hro (by omega) b off cap zs (by omega) hrows hlen W1 (Nat.lt_of_lt_of_le hb h.size) ((hI.below h hb).mono h.size)
    rwa [e4] at this
  have hcl : ∀ W1 : World, Below w.heap.size w W1 → CallsIn F (n - 1) Try.prog 17 #[.slice (some ⟨b, off, none⟩) 4 cap] W1 fun e W' => ∃ r vs a m c, e = .returned (.slice (some ⟨r, 0, none⟩) 4 4) ∧ vs[j]? = some (.slice a m c) ∧ Own4 W' w.heap.size r vs zs ∧ W'.cell? ⟨r, j, none⟩ = some (.slice a m c) ∧ Below w.heap.size w W' := fun W1 h => by
    refine (cloneV_in F (n - 1) h7 h8 hro (by omega) b off cap zs hz hrows W1 (Nat.lt_of_lt_of_le hb h.size) ((hI.below h hb).mono h.size)).mono ?_
    rintro e W' ⟨vs, rfl, ho, hB⟩
    obtain ⟨v, hv⟩ := ho.mem (show j < zs.length by omega)
    obtain ⟨a, c, hs⟩ := ownsRow_slice (ho.own j v _ hv (List.getElem?_eq_getElem (show j < zs.length by omega)))
    subst hs
    exact ⟨_, vs, a, _, c, rfl, hv, ho.mono h.size, (ho.cell hv).1, h.trans (hB.mono h.size)⟩
  have hhas : Maps.has (agesD (H := Unit) (fromRows zs zs.length)) (.int .i64 f.1) = false := by rw [hG.has]; exact decide_eq_false hnew
  have hzj : zs[j]? = some (zs[j]?.getD []) := by rw [List.getElem?_eq_getElem (show j < zs.length by omega)]; rfl
  have hlz : (zs[j]?.getD []).length ≤ 1000 := hG.row _ (List.mem_of_getElem? hzj)
  clear hck
  have hck : CallsIn F (n - 1) Try.prog 14 #[.slice (some ⟨b, off, none⟩) 4 cap] w fun e W' => e = .returned (.int .i64 0) ∧ Below w.heap.size w W' := by
    have := Check_in F (n - 1) h2 h6 h3 h4 h5 hro (by omega) b off cap zs hz hrows hlen w hb hI hG.ok hG.size
    rwa [e4] at this
  clear e4 hrows hlen
  generalize zs[j]?.getD [] = z at *
  generalize agesD (H := Unit) (fromRows zs zs.length) = DD at *
  generalize (fromRows zs zs.length).length = m at *
  obtain ⟨f, hfw⟩ := f
  have hn1 : 1 ≤ n := by omega
  obtain ⟨i0, hi, hz0, hz1, hz2⟩ := info_parts infoIv
  have hd0 : decide (0 ≤ f) = true := decide_eq_true hf.1
  have hd1 : decide (f < 256) = true := decide_eq_true hf.2
  refine callsIn_of_wp Try.func6 rfl h0 ?_ hro
  simp only [Try.ntmps6, List.size_toArray, List.length_cons, List.length_nil, Nat.reduceAdd, Nat.reduceSub, Array.replicate_succ, Array.replicate_zero, List.push_toArray, List.append_toArray, List.nil_append, List.cons_append]
  gi_wp2_with (first
    | (gi_at_call 14; refine hck.mono ?_; clear hck; rintro e w1 ⟨rfl, hB1⟩)
    | (gi_at_call 15; refine (isFrame_in F (n - 1) h6 hro f w1).mono ?_; rintro e w1' ⟨rfl, rfl⟩)
    | (gi_at_call 16; refine (hag _ hB1).mono ?_; clear hag; rintro e w2 ⟨rfl, hown, hB2⟩)
    | (gi_at_lookup; refine wpListIn_lookup_own_ok_int _ rfl _ _ 48 rfl 3 3 .i64 (Maps.int_keyed Try.underlying3) Try.underlying48 Try.underlying3 (Try.zeroValue3 _) _ m _ rfl hown _ _ rfl (Maps.keyOf_int_mk Try.underlying3 hfw) ?_; rw [hhas]; intro c' hc' hwc)
    | (gi_at_call 17; refine (hcl _ (hB1.trans (hB2.mono hB1.size))).mono ?_; clear hcl; rintro e w3 ⟨r, vs, va, vm, vc, rfl, hvj, ho, hr0, hB3⟩)
    | (gi_at_builtin; refine wpListIn_append_own_at _ rfl _ _ 29 rfl w.heap.size 3 i0 (.int .i64 0) 1 8 Try.underlying29 hi hz0 hz1 hz2 rfl (by decide) _ z.length (z.map iv) rfl ((ho.own j _ z hvj hzj).alloc _) ⟨w3.heap.size, 0, none⟩ 1 1 [.int .i64 f] rfl rfl (cell_one_new _ _ _) (by simp [Value.oneCell']) (by unfold maxLen; omega) (by omega) (by have := hB3.size; simp; omega) ?_; intro v' w4 hown4 hgrow hnil hat; obtain ⟨na, nc, rfl⟩ := ownsRow_slice hown4; obtain ⟨hr0', hr1', ho4⟩ := (ho.alloc _).push (x := ⟨f, hfw⟩) hvj hzj hgrow hown4 hat))
  go_ret2
  refine ⟨r, _, rfl, ho4, ?_⟩
  have h4 := hB3.trans ((Below.refl w.heap.size w3).alloc hB3.size (.cells #[.int .i64 f] 3))
  exact (h4.grown hgrow h4.size (fun k e => ((ho.own j _ z hvj hzj).lt k e).1)).setCell (p := ⟨r, j, none⟩) ho.lo _
end Go.Proofs.Ytolnhkpckbgmgaa
end
section
/- Generations: the iterator, where what comes is known to be one of the frames. -/
set_option linter.unusedSimpArgs false
set_option linter.unusedVariables false
namespace Go.Proofs.Ytolnhkpckbgmgaa
open Go.RowKit Go.Shelf
attribute [local go_sem] Oper.semAt_some
set_option maxRecDepth 100000 in
set_option maxHeartbeats 4000000 in
theorem all1P_in (F : Fence) (n : Nat) (hf : F.fn 29) (hro : F.round = none) (hn : 1 ≤ n) (l Bs n₀ b off cap : Nat) (zs : List (List I64)) (hz : zs.length ≤ 1000000) (hzs : ∀ z ∈ zs, z.length ≤ 1000000) (hb : b < n₀) (J Jx : List (K64 × I64) → World → Prop)
    (hY : ∀ pre x W, J pre W → pre ++ [x] <+: fromRows zs zs.length → YieldAt F (n - 1) Try.prog l #[.int .i64 (x.1.1 : Int), .int .i64 x.2.1] W fun e W' =>
      (e = .returned (.bool true) ∧ J (pre ++ [x]) W' ∧ Below n₀ W W') ∨ (e = .returned (.bool false) ∧ Jx (pre ++ [x]) W'))
    (W : World) (hBs : W.cell? ⟨Bs, 0, none⟩ = some (.slice (some ⟨b, off, none⟩) zs.length cap)) (hc : RowsAt n₀ W b off zs) (h0 : J [] W) :
    CallsIn F n Try.prog 29 #[.func (.yield l) #[] #[], .pointer (some ⟨Bs, 0, none⟩)] W fun e W' => (∃ v, e = .returned v) ∧
      ((∃ ys, ys = fromRows zs zs.length ∧ J ys W') ∨ (∃ pre, pre <+: fromRows zs zs.length ∧ Jx pre W')) := by
  refine callsIn_of_wp Try.func29 rfl hf ?_ hro
  simp only [Try.ntmps29, List.size_toArray, List.length_cons, List.length_nil, Nat.reduceAdd, Nat.reduceSub, Array.replicate_succ, Array.replicate_zero, List.push_toArray, List.append_toArray, List.nil_append, List.cons_append]
  gi_wp2
  gi_loopw [9] (fun i wr => ∃ k : Nat, k ≤ zs.length ∧ i = .int .i64 k ∧ J (fromRows zs k) wr ∧ Below n₀ W wr)
    (fun i _ => zs.length - (intOf i).toNat)
  case atStart => exact ⟨0, Nat.zero_le _, rfl, h0, Below.refl _ _⟩
  case round =>
    obtain ⟨k, hk, rfl, hJs, hnx⟩ := hrel
    by_cases hlt : k < zs.length
    · obtain ⟨sv, hsv, hi⟩ := hc.below hnx hb k hlt
      have hlz : (zs[k]?.getD []).length ≤ 1000000 := by
        rw [List.getElem?_eq_getElem hlt]
        exact hzs _ (List.getElem_mem hlt)
      have hsum : ∀ j, j ≤ (zs[k]?.getD []).length → (fromRows zs k).length + j ≤ (fromRows zs zs.length).length := fun j hj => by
        have := fromRows_le zs (show k + 1 ≤ zs.length by omega)
        rw [fromRows_succ, List.length_append, fromRow_len] at this
        omega
      generalize hzk : zs[k]?.getD [] = z at *
      obtain ⟨ad, cap', rfl, hcs⟩ := hi
      gi_wp2
      gi_loopw [16] (fun i w2 => ∃ j : Nat, j ≤ z.length ∧ i = .int .i64 j ∧ J (fromRows zs k ++ fromRow z k j) w2 ∧ Below n₀ W w2 ∧ Below n₀ wr w2)
        (fun i _ => z.length - (intOf i).toNat)
      case atStart => exact ⟨0, Nat.zero_le _, rfl, by simpa [fromRow] using hJs, hnx, Below.refl _ _⟩
      case round =>
        obtain ⟨j, hj, rfl, hJ2, hn2, hn3⟩ := hrel
        by_cases hjt : j < z.length
        · obtain ⟨b2, off2, rfl, hb2, hcell⟩ := hcs j hjt
          have hcell2 := (hn3.cell (p := ⟨b2, off2 + j, none⟩) hb2).trans hcell
          obtain ⟨x, hx⟩ : ∃ x, z[j]?.getD z0 = x := ⟨_, rfl⟩
          rw [hx] at hcell2
          have hpx : fromRows zs k ++ fromRow z k (j + 1) <+: fromRows zs zs.length := by have := fromRows_pre zs hlt (j := j + 1) (by rw [hzk]; omega); rwa [hzk] at this
          rw [fromRow_succ, hx, ← List.append_assoc] at hpx
          obtain ⟨fn, tmps, assign, body, hy, hR⟩ := hY _ (k64 k, x) _ hJ2 hpx
          dsimp only at hy
          rw [k64_val (by omega)] at hy
          gi_wp2
          refine hR.mono ?_
          rintro e W3 (⟨rfl, hJ3, hk3⟩ | ⟨rfl, hJx3⟩)
          · gi_wp2
            go_roundw
            case rel => exact ⟨j + 1, by omega, by simp, by rw [fromRow_succ, ← List.append_assoc, hx]; exact hJ3, hn2.trans hk3, hn3.trans hk3⟩
            case measure => simp [intOf]; omega
          · gi_wp2
            refine bodyPost_ret (results_none rfl _ _ _) rfl ?_
            exact ⟨⟨_, rfl⟩, .inr ⟨_, by have := fromRows_pre zs hlt (j := j + 1) (by rw [hzk]; omega); rw [hzk, fromRow_succ, hx, ← List.append_assoc] at this; exact this, hJx3⟩⟩
        · obtain rfl : j = z.length := by omega
          gi_wp2
          exact ⟨⟨k + 1, by omega, by simp, by rw [fromRows_succ, hzk]; exact hJ2, hn2⟩, by simp [intOf]; omega⟩
    · obtain rfl : k = zs.length := by omega
      gi_wp2
      go_end0
      exact ⟨⟨_, rfl⟩, .inl ⟨_, rfl, hJs⟩⟩
abbrev RowIn (rows : List (K64 × I64)) := { x : K64 × I64 // x ∈ rows }
theorem all_stopsP (F : Fence) (n : Nat) (hf : F.fn 29) (hro : F.round = none) (hn : 1 ≤ n) (Bs n₀ b off cap : Nat) (zs : List (List I64)) (hz : zs.length ≤ 1000000) (hzs : ∀ z ∈ zs, z.length ≤ 1000000) (w : World) (hBs : Bs < w.heap.size) (hn₀ : n₀ ≤ w.heap.size) (hb : b < n₀)
    (hc : w.cell? ⟨Bs, 0, none⟩ = some (.slice (some ⟨b, off, none⟩) zs.length cap)) (hI : RowsAt n₀ w b off zs) :
    SeqStopsK F n Try.prog 29 #[.pointer (some ⟨Bs, 0, none⟩)] (fun x : RowIn (fromRows zs zs.length) => #[Value.int .i64 (x.1.1.1 : Int), Value.int .i64 x.1.2.1]) (Below n₀) (fun ys => ys.map (fun x => x.1) = fromRows zs zs.length) (fun pre => True) (fromRows zs zs.length).length w := fun l J Jx W hW _ _ hY h0 => by
  have hc' := (hW.cell (p := ⟨Bs, 0, none⟩) hBs).trans hc
  refine (all1P_in F n hf hro hn l Bs n₀ b off cap zs hz hzs hb (fun pre W => ∃ p : List (RowIn (fromRows zs zs.length)), p.map (fun x => x.1) = pre ∧ J p W) (fun pre W => ∃ p : List (RowIn (fromRows zs zs.length)), p.map (fun x => x.1) = pre ∧ Jx p W) ?_ W hc' (hI.below (hW.mono hn₀) hb) ⟨[], rfl, h0⟩).mono ?_
  · rintro pre x W1 ⟨p, rfl, hj⟩ hpx
    have hx : x ∈ fromRows zs zs.length := hpx.subset (by simp)
    have hl : p.length < (fromRows zs zs.length).length := by
      have := hpx.length_le
      simp at this
      omega
    obtain ⟨fn, tmps, assign, body, hy, hR⟩ := hY p ⟨x, hx⟩ W1 hj hl
    refine ⟨fn, tmps, assign, body, hy, hR.mono ?_⟩
    rintro e W' (⟨rfl, hJ, hB⟩ | ⟨rfl, hJ⟩)
    · exact .inl ⟨rfl, ⟨p ++ [⟨x, hx⟩], by simp, hJ⟩, hB⟩
    · exact .inr ⟨rfl, ⟨p ++ [⟨x, hx⟩], by simp, hJ⟩⟩
  · rintro e W' ⟨he, ⟨ys, rfl, p, hp, hj⟩ | ⟨pre, _, p, hp, hj⟩⟩
    · exact ⟨he, .inl ⟨p, hp, hj⟩⟩
    · exact ⟨he, .inr ⟨p, trivial, hj⟩⟩
end Go.Proofs.Ytolnhkpckbgmgaa
end
section
/- Regions whose order is drawn, within the round of a range over a function. -/
set_option linter.unusedSimpArgs false
set_option linter.unusedVariables false
namespace Go.Proofs.Ytolnhkpckbgmgaa
open Go.RowKit Go.Shelf
section
variable {F : Fence} {n : Nat} {P : Program} {ops : Array Oper} {Q : Exit → Act → World → Prop} {md : Region.Mode}
theorem opIn_round (l : Nat) (hro : F.round = none) {o : Oper} (hd : ∀ c, o.op ≠ .defer c) {a : Act} {w : World} {K : Act → World → Prop} (h : Oper.wpIn F n P o a w K Q) : Oper.wpIn (F.inRound l) n P o a w K Q := by
  refine ⟨h.1, ?_⟩
  have h2 := h.2
  rw [Oper.semAt_plain F _ _ hd] at h2
  rw [Oper.semAt_plain (F.inRound l) _ _ hd]
  generalize (execOp a.eval o).run P w = r at *
  cases r with
  | ok x w' => cases x <;> exact h2
  | halt x w' => cases x <;> exact h2
theorem wpAnyIn_round (l : Nat) (hro : F.round = none) (hd : ∀ (i : Nat) (o : Oper), ops[i]? = some o → ∀ c, o.op ≠ .defer c) : ∀ (fuel : Nat) (listed : Array Bool) (a : Act) (w : World), wpAnyIn F n P md ops Q fuel listed a w → wpAnyIn (F.inRound l) n P md ops Q fuel listed a w
  | 0, _, _, _, h => h
  | fuel + 1, listed, a, w, h => by
    refine ⟨h.1, fun i hi => ?_⟩
    have h2 := wpOpIn_mono (fun a w => wpAnyIn_round l hro hd fuel _ a w) (h.2 i hi)
    unfold wpOpIn at *
    cases ho : ops[i]? with
    | none => simpa only [ho] using h2
    | some o =>
      simp only [ho] at h2 ⊢
      by_cases hw : Region.wanted o (yielded ops a.tmps) = true
      · rw [if_pos hw] at h2 ⊢; exact opIn_round l hro (hd i o ho) h2
      · rw [if_neg hw] at h2 ⊢; exact h2
def plainOp (o : Oper) : Bool := match o.op with | .defer _ => false | _ => true
theorem wpIn_region_round {id : Nat} {a : Act} {w : World} (l : Nat) (hro : F.round = none) (hm : P.follows .mixedOrders = true) (hd : ops.toList.all plainOp = true)
    (h : wpAnyIn F n P .any ops Q ops.size (Array.replicate ops.size false) a w.drew) : (Code.region id ops true).wpIn (F.inRound l) n P Q a w :=
  wpIn_region_any hm (wpAnyIn_round l hro (fun i o ho c e => by
    have := List.all_eq_true.1 hd o (List.mem_of_getElem? (by simpa using ho))
    simp [plainOp, e] at this) _ _ _ _ h)
theorem tk {i : Nat} {oi : Oper} {v : Value} {fuel : Nat} {listed : Array Bool} {a : Act} {w : World} (hro : F.round = none) (hi : ops[i]? = some oi)
    (hs : Region.noSelect ops = true) (hf : Region.free md ops listed i = true) (hr : (Region.ready md ops listed).contains i = true) (hy : YieldsFenced P ops oi v a)
    (h : wpAnyIn F n P md ops Q fuel (listed.setIfInBounds i true) (a.put oi.dst v) w) (hQ : ∀ c a w, Q (.panic c) (a.put oi.dst v) w → Q (.panic c) a w := by exact fun _ _ _ h => h) : wpAnyIn F n P md ops Q (fuel + 1) listed a w :=
  wpAnyIn_take hro hi hs hf hr hQ hy h
theorem stepIn_append {o : Oper} {a : Act} {w : World} {K : Act → World → Prop} {E : Prop} (hgd : o.guard = none) (s x : Operand) (t : TypeId)
    (ho : o.op = .call { callee := .builtin .append, args := #[s, x], argTypes := #[t, t] }) {v u v' : Value} {w' : World} (hs : a.eval s = v) (hx : a.eval x = u)
    (hr : (Builtin.append_ #[t, t] o.type #[v, u]).run P w = .ok v' w') (h : K (a.put o.dst v') w') :
    if Region.wanted o (yielded ops a.tmps) = true then Oper.wpIn F n P o a w K Q else E := by
  have hw : Region.wanted o (yielded ops a.tmps) = true := by simp [Region.wanted, hgd]
  rw [if_pos hw]
  refine ⟨by simp [Oper.about, ho, resolve, Target.leads, Sem.run_pure], ?_⟩
  rw [Oper.semAt_plain F _ _ (by rw [ho]; intro c hc'; cases hc')]
  simp [execOp, ho, resolve, invoke, builtin, hs, hx, hr, Result.andThen]
  exact h
end
end Go.Proofs.Ytolnhkpckbgmgaa
end
section
/- Generations: Age, for any lists. -/
set_option linter.unusedSimpArgs false
set_option linter.unusedVariables false
namespace Go.Proofs.Ytolnhkpckbgmgaa
open Go.RowKit Go.Shelf
attribute [local go_sem] Oper.semAt_some
/-! ### A map that holds 'true' alone -/
def hotD (l : List Int) : DataW Unit := l.foldl (fun D x => D.put (.int .i64 x) (.lit (.bool true))) (.map [])
theorem hotD_snoc (l : List Int) (x : Int) : hotD (l ++ [x]) = (hotD l).put (.int .i64 x) (.lit (.bool true)) := by simp [hotD]
theorem hotD_at (l : List Int) (f : Int) : (hotD l).atKey (.int .i64 f) (.lit (.bool false)) = .lit (.bool (l.contains f)) := by
  unfold hotD
  suffices h : ∀ (r pre : List Int) (m : DataW Unit), Maps.Tidy m → m.atKey (.int .i64 f) (.lit (.bool false)) = .lit (.bool (pre.contains f)) → (r.foldl (fun D x => D.put (.int .i64 x) (.lit (.bool true))) m).atKey (.int .i64 f) (.lit (.bool false)) = .lit (.bool ((pre ++ r).contains f)) from by
    have := h l [] _ Maps.tidy_empty rfl
    simpa using this
  intro r
  induction r with
  | nil => intro pre m _ h; simpa using h
  | cons x r ih =>
    intro pre m hm h
    rw [List.foldl_cons]
    have := ih (pre ++ [x]) (m.put (.int .i64 x) (.lit (.bool true))) (hm.put (by simp [WideAt.IsKeyLit]) _) (by
      by_cases e : f = x
      · subst e
        rw [Maps.atKey_put_same hm.isMap (by simp [WideAt.IsKeyLit])]; simp
      · rw [Maps.atKey_put_other (by intro e'; injection e' with _ e'; exact e e'), h]; simp [e])
    simpa using this
theorem plain_bool_inv {P : Program} {e : TypeId} (he : P.underlying e = some .bool) {v : Value} {bb : Bool} {ps : List MemPlace} (h : plainElem (H := Unit) P e v = some (.lit (.bool bb), ps)) : v = .bool bb := by
  unfold plainElem at h
  rw [he] at h
  cases v <;> simp at h
  exact congrArg Value.bool h.1
theorem wpListIn_lookup_own_bool {P : Program} {F : Fence} {nF : Nat} (w : World) {ops : Array Oper} {rest : List Oper} {o : Oper} {a : Act} {Q : Exit → Act → World → Prop}
    (hg : o.guard = none) (m x : Operand) (t : TypeId) (hop : o.op = Op.lookup t m x false)
    (k e : TypeId) (K : Maps.Keyed P k) (ht : P.underlying t = some (.map k e)) (he : P.underlying e = some .bool) (hz : (zeroValue e).run P w = .ok (.bool false) w) (b n : Nat) (D : DataW Unit)
    (hm : a.eval m = .map (some b)) (hown : w.ownsMap P k (plainElem P e) b n D) (key : Value) (kl : Lit) (hx : a.eval x = key) (hkey : keyOf P k key = some kl) (bb : Bool) (hat : D.atKey kl (.lit (.bool false)) = .lit (.bool bb))
    (hK : wpListIn F nF P ops Q rest (a.put o.dst (.bool bb)) w) :
    wpListIn F nF P ops Q (o :: rest) a w := by
  refine wpListIn_plain hg fun K' hK' => ?_
  obtain ⟨v, ps, hrun, hv⟩ := hown.lookup K ht hz (plainElem_bool he false) hkey
  rw [hat] at hv
  obtain rfl := plain_bool_inv he hv
  unfold Oper.wpIn
  refine ⟨by simp [Oper.about, hop], ?_⟩
  rw [Oper.semAt_plain F _ _ (by rw [hop]; intro c hc'; cases hc')]
  simp [execOp, hop, hm, hx, hrun, Result.andThen]
  exact hK' _ _ hK
def toG (hot : List Int) (x : K64 × I64) : Nat := if hot.contains x.2.1 then 3 else x.1.1 - 1
def ageTo (hot : List Int) (pre : List (K64 × I64)) : List (List I64) := pre.foldl (fun r x => r.set (toG hot x) ((r[toG hot x]?.getD []) ++ [x.2])) [[], [], [], []]
theorem ageTo_snoc (hot : List Int) (pre : List (K64 × I64)) (x : K64 × I64) : ageTo hot (pre ++ [x]) = (ageTo hot pre).set (toG hot x) (((ageTo hot pre)[toG hot x]?.getD []) ++ [x.2]) := by simp [ageTo]
theorem ageTo_len (hot : List Int) (pre : List (K64 × I64)) : (ageTo hot pre).length = 4 := by
  unfold ageTo
  suffices h : ∀ (l : List (K64 × I64)) (r : List (List I64)), r.length = 4 → (l.foldl (fun r x => r.set (toG hot x) ((r[toG hot x]?.getD []) ++ [x.2])) r).length = 4 from h _ _ rfl
  intro l
  induction l with
  | nil => exact fun r h => h
  | cons x l ih => exact fun r h => ih _ (by simpa using h)
theorem ageTo_row (hot : List Int) (pre : List (K64 × I64)) (j : Nat) : ((ageTo hot pre)[j]?.getD []).length ≤ pre.length := by
  suffices h : ∀ (l : List (K64 × I64)) (r : List (List I64)) (n : Nat), (∀ j : Nat, (r[j]?.getD []).length ≤ n) → ∀ j : Nat, (((l.foldl (fun r x => r.set (toG hot x) ((r[toG hot x]?.getD []) ++ [x.2])) r))[j]?.getD []).length ≤ n + l.length from by
    have h4 : ∀ j : Nat, (([[], [], [], []] : List (List I64))[j]?.getD []).length ≤ 0 := fun j => by
      rcases Nat.lt_or_ge j 4 with h | h
      · obtain rfl | rfl | rfl | rfl : j = 0 ∨ j = 1 ∨ j = 2 ∨ j = 3 := by omega
        all_goals exact Nat.le_refl 0
      · rw [List.getElem?_eq_none (by simpa using h)]; simp
    have := h pre [[], [], [], []] 0 h4 j
    simpa [ageTo] using this
  intro l
  induction l with
  | nil => intro r n h j; simpa using h j
  | cons x l ih =>
    intro r n h j
    rw [List.foldl_cons]
    have := ih (r.set (toG hot x) ((r[toG hot x]?.getD []) ++ [x.2])) (n + 1) (fun k => by
      by_cases e : toG hot x = k
      · subst e
        rcases Nat.lt_or_ge (toG hot x) r.length with h1 | h1
        · rw [List.getElem?_set_self h1]
          have := h (toG hot x)
          simp; omega
        · rw [List.getElem?_eq_none (by simpa using h1)]; simp
      · rw [List.getElem?_set_ne e]; exact Nat.le_succ_of_le (h k)) j
    simp only [List.length_cons]
    omega
theorem keeps_alloc_drew (W : World) (o : Obj) : KeepsOthers W (W.alloc o).drew := (KeepsOthers.alloc W o).trans ⟨Nat.le_refl _, fun _ _ h _ => h⟩
theorem grown_drew (W : World) : W.grownBy W.drew none := ⟨rfl, rfl, rfl, Nat.le_refl _, fun _ _ _ => rfl⟩
theorem Own4.other {W W' : World} {base r : Nat} {vs : List Value} {zs : List (List I64)} (h : Own4 W base r vs zs) {B : Nat} {u : Value} (hb : Boxed W B 24 u) {j : Nat} {v : Value} {z : List I64} (hv : vs[j]? = some v) (hz : zs[j]? = some z) (hg : W.grownBy W' v.ownBlock) : Boxed W' B 24 u :=
  hb.kept hg (hb.not_row (by decide) (h.own j v z hv hz))
theorem Own4.cellsOf {W : World} {base r : Nat} {vs : List Value} {zs : List (List I64)} (h : Own4 W base r vs zs) {j : Nat} {v : Value} {z : List I64} (hv : vs[j]? = some v) (hz : zs[j]? = some z) {k : Nat} {o : Obj} (e : v.ownBlock = some k) (hk : W.heap[k]? = some o) : o.isCells = true := by
  rcases (h.own j v z hv hz).2 with ⟨rfl, _⟩ | ⟨g, cap, cur, rfl, _, hgb, _⟩
  · cases e
  · obtain rfl : g = k := by simpa [Value.ownBlock] using e
    rw [hgb] at hk; cases hk; rfl
theorem not_before {us : List I64} (hud : (us.map fun x => x.1).Nodup) {k : Nat} (hlt : k < us.length) : ((us.take k).map fun x => x.1).contains (us[k]?.getD z0).1 = false := by
  rw [Bool.eq_false_iff]
  intro hc
  rw [List.contains_iff_mem] at hc
  have e : us.map (fun x => x.1) = (us.take k).map (fun x => x.1) ++ ((us.drop k).map fun x => x.1) := by rw [← List.map_append, List.take_append_drop]
  rw [e, List.nodup_append] at hud
  refine hud.2.2 _ hc _ ?_ rfl
  refine List.mem_map_of_mem (f := fun x : I64 => x.1) ?_
  rw [List.getElem?_eq_getElem hlt, List.drop_eq_getElem_cons hlt, Option.getD_some]
  exact List.mem_cons_self
set_option maxRecDepth 100000 in
set_option maxHeartbeats 1000000 in
theorem New_in (F : Fence) (n : Nat) (hf : F.fn 5) (hro : F.round = none) (w : World) :
    CallsIn F n Try.prog 5 #[] w fun e w' => e = .returned (.slice (some ⟨w.heap.size, 0, none⟩) 4 4) ∧ w' = w.alloc (.cells #[.slice none 0 0, .slice none 0 0, .slice none 0 0, .slice none 0 0] 29) := by
  have hmk := mk4v w
  refine callsIn_of_wp Try.func5 rfl hf ?_ hro
  simp only [Try.ntmps5, List.size_toArray, List.length_cons, List.length_nil, Nat.reduceAdd, Nat.reduceSub, Array.replicate_succ, Array.replicate_zero, List.push_toArray, List.append_toArray, List.nil_append, List.cons_append]
  gi_wp2
  go_ret
  exact ⟨rfl, rfl⟩
set_option maxRecDepth 100000 in
set_option maxHeartbeats 2000000 in
theorem Age_in (F : Fence) (n : Nat) (h0 : F.fn 7) (h1 : F.fn 5) (h2 : F.fn 14) (h6 : F.fn 15) (h3 : F.fn 16) (h4 : F.fn 18) (h5 : F.fn 29) (hro : F.round = none) (hn : 6 ≤ n) (b off cap : Nat) (zs : List (List I64)) (hG : Gens zs) (w : World) (hb : b < w.heap.size) (hI : RowsAt w.heap.size w b off zs)
    (ua : Value) (us : List I64) (hul : us.length ≤ 1000) (hU : IntsAt w.heap.size w ua us) (hin : ∀ x ∈ us, x.1 ∈ zs.flatten.map fun x => x.1) (hud : (us.map fun x => x.1).Nodup) :
    CallsIn F n Try.prog 7 #[.slice (some ⟨b, off, none⟩) 4 cap, ua] w fun e W' => ∃ r vs, e = .returned (.tuple #[.slice (some ⟨r, 0, none⟩) 4 4, .int .i64 0]) ∧ Own4 W' w.heap.size r vs (ageTo (us.map fun x => x.1) (fromRows zs zs.length)) ∧ Below w.heap.size w W' := by
  have hz := hG.len
  have hrows : ∀ z ∈ zs, z.length ≤ 1000000 := fun z hz => Nat.le_trans (hG.row z hz) (by decide)
  have hlen : (fromRows zs zs.length).length ≤ maxLen := by
    rw [hG.rlen]; have := hG.small; unfold maxLen; omega
  have hlen2 : (fromRows zs zs.length).length ≤ 1000 := by rw [hG.rlen]; exact hG.small
  have e4 : (Value.slice (some ⟨b, off, none⟩) zs.length cap) = .slice (some ⟨b, off, none⟩) 4 cap := by rw [hz]
  have hck : CallsIn F (n - 1) Try.prog 14 #[.slice (some ⟨b, off, none⟩) 4 cap] w fun e W' => e = .returned (.int .i64 0) ∧ Below w.heap.size w W' := by
    have := Check_in F (n - 1) h2 h6 h3 h4 h5 hro (by omega) b off cap zs hz hrows hlen w hb hI hG.ok hG.size
    rwa [e4] at this
  have hag : ∀ W1 : World, Below w.heap.size w W1 → CallsIn F (n - 1) Try.prog 16 #[.slice (some ⟨b, off, none⟩) 4 cap] W1 fun e W' => e = .returned (.map (some W1.heap.size)) ∧ W'.ownsMap Try.prog 3 (plainElem (H := Unit) Try.prog 3) W1.heap.size (fromRows zs zs.length).length (agesD (fromRows zs zs.length)) ∧ Below W1.heap.size W1 W' := fun W1 h => by
    have := ages_in (H := Unit) F (n - 1) h3 h4 h5 hro (by omega) b off cap zs (by omega) hrows hlen W1 (Nat.lt_of_lt_of_le hb h.size) ((hI.below h hb).mono h.size)
    rwa [e4] at this
  have hall : ∀ (Bs : Nat) (W : World), Below w.heap.size w W → Bs < W.heap.size → W.cell? ⟨Bs, 0, none⟩ = some (.slice (some ⟨b, off, none⟩) 4 cap) →
      SeqStopsK F (n - 1) Try.prog 29 #[.pointer (some ⟨Bs, 0, none⟩)] (fun x : RowIn (fromRows zs zs.length) => #[Value.int .i64 (x.1.1.1 : Int), Value.int .i64 x.1.2.1]) (Below w.heap.size) (fun ys => ys.map (fun x => x.1) = fromRows zs zs.length) (fun pre => True) (fromRows zs zs.length).length W := fun Bs W hB hBs hc =>
    all_stopsP F (n - 1) h5 hro (by omega) Bs w.heap.size b off cap zs (by omega) hrows W hBs hB.size hb (by rw [hz]; exact hc) (hI.below hB hb)
  have hhas : ∀ x ∈ us, Maps.has (agesD (H := Unit) (fromRows zs zs.length)) (.int .i64 x.1) = true := fun x hx => by rw [hG.has]; exact decide_eq_true (hin x hx)
  have hage3 : ∀ x ∈ fromRows zs zs.length, x.1.1 < 4 := by
    rw [hz]
    intro x hx
    simp only [fromRows, List.mem_flatMap, List.mem_range, fromRow, List.mem_map] at hx
    obtain ⟨k, hk, i, _, rfl⟩ := hx
    simp only [k64_val (show k ≤ 1000000 by omega)]
    exact hk
  clear e4 hrows hlen hin
  generalize fromRows zs zs.length = rows at *
  generalize agesD (H := Unit) rows = DD at *
  obtain ⟨uad, ucap, rfl, huc⟩ := hU
  have h1' : 1 ≤ n := by omega
  have hsw : w.heap.size ≤ w.heap.size := Nat.le_refl _
  obtain ⟨i0, hi, hz0, hz1, hz2⟩ := info_parts infoIv
  have hmm := @run_makeMap Try.prog
  refine callsIn_of_wp_marks Try.func7 rfl h0 ?_ hro
  simp only [Try.ntmps7, List.size_toArray, List.length_cons, List.length_nil, Nat.reduceAdd, Nat.reduceSub, Array.replicate_succ, Array.replicate_zero, List.push_toArray, List.append_toArray, List.nil_append, List.cons_append]
  gi_wp2_with (first
    | (gi_at_call 14; refine hck.mono ?_; clear hck; rintro e w1 ⟨rfl, hB1⟩)
    | (gi_at_call 16; refine (hag _ hB1).mono ?_; clear hag; rintro e w2 ⟨rfl, hown, hB2⟩))
  have hB2w : Below w.heap.size w w2 := hB1.trans (hB2.mono hB1.size)
  have hm0 := World.ownsMap_made w2 Try.prog 3 (plainElem (H := Unit) Try.prog 4)
  have cS := cell_new_c (w2.alloc (.map #[] 0)) (.map (some w2.heap.size)) 51
  simp only [World.size_alloc] at cS
  have hsz := hB2w.size
  have hsz2 := hB2.size
  have hol := hown.lt
  have hB3 : Below w.heap.size w ((w2.alloc (.map #[] 0)).alloc (.cells #[.map (some w2.heap.size)] 51)) := (hB2w.alloc hsz _).alloc (by simp; omega) _
  have hown2 := (hown.alloc (.map #[] 0)).alloc (.cells #[.map (some w2.heap.size)] 51)
  gi_loopw [27] (fun i wr => ∃ k : Nat, k ≤ us.length ∧ i = .int .i64 k ∧ wr.cell? ⟨w2.heap.size + 1, 0, none⟩ = some (.map (some w2.heap.size)) ∧ wr.ownsMap Try.prog 3 (plainElem (H := Unit) Try.prog 4) w2.heap.size k (hotD ((us.take k).map fun x => x.1)) ∧
      wr.ownsMap Try.prog 3 (plainElem (H := Unit) Try.prog 3) w1.heap.size rows.length DD ∧ Below w.heap.size w wr)
    (fun i _ => us.length - (intOf i).toNat)
  case atStart => exact ⟨0, Nat.zero_le _, rfl, cS.1, by simpa [hotD] using hm0.alloc _, hown2, hB3⟩
  case round =>
    obtain ⟨k, hk, rfl, hbx, hmp, hwh, hB⟩ := hrel
    by_cases hlt : k < us.length
    · obtain ⟨ub, uo, rfl, hub, huv⟩ := huc k hlt
      have huv2 := (hB.cell (p := ⟨ub, uo + k, none⟩) hub).trans huv
      have hmem : us[k]?.getD z0 ∈ us := by rw [List.getElem?_eq_getElem hlt]; exact List.getElem_mem hlt
      have hh := hhas _ hmem
      have hct := not_before hud hlt
      have hsn : hotD ((us.take (k + 1)).map fun x => x.1) = (hotD ((us.take k).map fun x => x.1)).put (.int .i64 (us[k]?.getD z0).1) (.lit (.bool true)) := by
        rw [List.take_add_one, List.getElem?_eq_getElem hlt, Option.toList_some, List.map_append, List.map_cons, List.map_nil, hotD_snoc]
        rfl
      have hat := hotD_at ((us.take k).map fun x => x.1) (us[k]?.getD z0).1
      rw [hct] at hat
      generalize us[k]?.getD z0 = x at *
      obtain ⟨x, hxw⟩ := x
      gi_wp2_with (first
        | (gi_at_lookup; refine wpListIn_lookup_own_ok_int _ rfl _ _ 48 rfl 3 3 .i64 (Maps.int_keyed Try.underlying3) Try.underlying48 Try.underlying3 (Try.zeroValue3 _) _ rows.length _ rfl hwh _ _ rfl (Maps.keyOf_int_mk Try.underlying3 hxw) ?_; rw [hh]; intro c' hc' hwc)
        | (gi_at_lookup; refine wpListIn_lookup_own_bool _ rfl _ _ 51 rfl 3 4 (Maps.int_keyed Try.underlying3) Try.underlying51 Try.underlying4 (Try.zeroValue4 _) _ k _ rfl hmp _ _ rfl (Maps.keyOf_int_mk Try.underlying3 hxw) false hat ?_)
        | (gi_at_mapUpdate; refine wpListIn_mapUpdate_own _ rfl _ _ _ 51 rfl 3 4 (Maps.int_keyed Try.underlying3) Try.underlying51 _ w2.heap.size k _ rfl hmp (by unfold maxLen; omega) _ _ _ rfl rfl (Maps.keyOf_int_mk Try.underlying3 hxw) _ [] (plainElem_bool Try.underlying4 true) ?_; intro w3 hown3 hgrow3))
      exact ⟨⟨k + 1, by omega, by simp, hgrow3.cell hbx (by simp), by rw [hsn]; exact hown3, hwh.kept hgrow3 (by simp; omega), hB.grown hgrow3 hB.size (fun j e => by cases e; omega)⟩, by simp [intOf]; omega⟩
    · obtain rfl : k = us.length := by omega
      rw [List.take_length] at hmp
      clear hwh hhas hown hown2 hB3 cS hm0 hB2 hB1 huc hud hul
      have hszr := hB.size
      have hml := hmp.lt
      gi_wp2_with (first
        | (gi_at_call 5; refine (New_in F (n - 1) h1 hro _).mono ?_; rintro e w' ⟨rfl, rfl⟩)
        | (gi_at_call 18; refine (all_in F (n - 1) h4 hro _ _ _ _).mono ?_; rintro e w' ⟨rfl, rfl⟩))
      have hnew := own4_new wr
      have c13 := cell_new_c (wr.alloc (.cells #[.slice none 0 0, .slice none 0 0, .slice none 0 0, .slice none 0 0] 29)) (.slice (some ⟨wr.heap.size, 0, none⟩) 4 4) 24
      have cN := cell_new_c ((wr.alloc (.cells #[.slice none 0 0, .slice none 0 0, .slice none 0 0, .slice none 0 0] 29)).alloc (.cells #[.slice (some ⟨wr.heap.size, 0, none⟩) 4 4] 24)) (.slice (some ⟨b, off, none⟩) 4 cap) 24
      simp only [World.size_alloc] at c13 cN
      have hbx13 : Boxed ((wr.alloc (.cells #[.slice none 0 0, .slice none 0 0, .slice none 0 0, .slice none 0 0] 29)).alloc (.cells #[.slice (some ⟨wr.heap.size, 0, none⟩) 4 4] 24)) (wr.heap.size + 1) 24 (.slice (some ⟨wr.heap.size, 0, none⟩) 4 4) := by have := World.alloc_heap_new (wr.alloc (.cells #[.slice none 0 0, .slice none 0 0, .slice none 0 0, .slice none 0 0] 29)) (.cells #[.slice (some ⟨wr.heap.size, 0, none⟩) 4 4] 24); rwa [World.size_alloc] at this
      have hB0 := ((hB.alloc (show w.heap.size ≤ wr.heap.size by omega) (.cells #[.slice none 0 0, .slice none 0 0, .slice none 0 0, .slice none 0 0] 29)).alloc (by simp; omega) (.cells #[.slice (some ⟨wr.heap.size, 0, none⟩) 4 4] 24)).alloc (by simp; omega) (.cells #[.slice (some ⟨b, off, none⟩) 4 cap] 24)
      generalize hhot : us.map (fun x => x.1) = hot at *
      refine' wpIn_rangeFunc_ownG hro h1' (gf := 29) (lb := #[.pointer (some ⟨wr.heap.size + 1 + 1, 0, none⟩)]) rfl h5 (enters_of Try.func29 (by kernel_rfl) rfl)
        (hall (wr.heap.size + 1 + 1) _ hB0 (by simp) cN.1) belowK_t (belowK_b (by simp; omega)) (Below.refl _ _) (fun _ => rfl)
        (fun pre W => ((W.cell? ⟨w2.heap.size + 1, 0, none⟩ = some (.map (some w2.heap.size)) ∧ W.ownsMap Try.prog 3 (plainElem (H := Unit) Try.prog 4) w2.heap.size us.length (hotD hot)) ∧ (Boxed W (wr.heap.size + 1) 24 (.slice (some ⟨wr.heap.size, 0, none⟩) 4 4) ∧ ∃ vs, Own4 W wr.heap.size wr.heap.size vs (ageTo hot (pre.map fun x => x.1)))) ∧ Below w.heap.size w W)
        (fun _ _ _ => False)
        (OwnFrom.and (fun s A B row hs hg hr => ⟨⟨cell_kept hs.1.1 hg (fun r e => (hr r e).2), hs.1.2.kept hg (fun e => by have := (hr _ e.symm).1; simp at this; omega)⟩, hs.2.1.kept hg (fun e' => by obtain ⟨_, o, ho, hc⟩ := hr _ e'.symm; rw [show A.heap[wr.heap.size + 1]? = _ from hs.2.1] at ho; cases ho; cases hc), let ⟨vs, ho⟩ := hs.2.2; ⟨vs, ho.away hg (fun r e => (hr r e).2)⟩⟩) (ownFrom_below hsw (by simp; omega)))
        (fun _ _ _ _ _ hs _ _ => hs)
        ⟨⟨⟨cell_alloc_c _ (cell_alloc_c _ (cell_alloc_c _ hbx)), ((hmp.alloc _).alloc _).alloc _⟩, hbx13.alloc _, nils4, (hnew.alloc _).alloc _⟩, hB0⟩
        _ ?assign ?body ?done ?stop
      case assign =>
        intro l x W K hK
        gi_wp2
        exact hK
      case body =>
        rintro l pre x W ⟨⟨⟨hb8, hmq⟩, h13, vs, ho⟩, hBW⟩ hlt
        have hx4 := hage3 x.1 x.2
        have hmx : Try.prog.follows .mixedOrders = true := by kernel_rfl
        obtain ⟨⟨⟨a, haw⟩, f, hfw⟩, hxm⟩ := x
        simp only at hx4
        have hat := hotD_at hot f
        generalize hbb : hot.contains f = bb at hat
        cases bb
        · by_cases ha : 1 < a
          · obtain ⟨j, hja⟩ : ∃ j, a - 1 = j := ⟨_, rfl⟩
            have hj1 : (1 : Int) < (a : Int) := by omega
            have hsub : wrap64 ((a : Int) - 1) = (j : Int) := by rw [IntWalk.wrap64_in _ (by constructor <;> omega)]; omega
            gi_wp2_with (first
              | (gi_at_lookup; refine wpListIn_lookup_own_bool _ rfl _ _ 51 rfl 3 4 (Maps.int_keyed Try.underlying3) Try.underlying51 Try.underlying4 (Try.zeroValue4 _) _ us.length _ rfl hmq _ _ rfl (Maps.keyOf_int_mk Try.underlying3 hfw) false hat ?_))
            have hja2 : (a : Int) - 1 = (j : Int) := by omega
            rw [hja2]
            have hlj : j < (ageTo hot (pre.map fun x => x.1)).length := by rw [ageTo_len]; omega
            obtain ⟨v, hv⟩ := ho.mem hlj
            have hzj := List.getElem?_eq_getElem hlj
            have hll := ageTo_row hot (pre.map fun x => x.1) j
            have hpl : (pre.map fun x => x.1).length ≤ 1000 := by rw [List.length_map]; omega
            have hsn := ageTo_snoc hot (pre.map fun x => x.1) (⟨a, haw⟩, ⟨f, hfw⟩)
            rw [show toG hot (⟨a, haw⟩, ⟨f, hfw⟩) = j from by simp only [toG, hbb]; rw [if_neg (by decide)]; omega] at hsn
            rw [hzj, Option.getD_some] at hll hsn
            have hown1 := ho.own j v _ hv hzj
            generalize (ageTo hot (pre.map fun x => x.1))[j] = z at *
            obtain ⟨va, vc, rfl⟩ := ownsRow_slice hown1
            have hd13 := h13.cell
            have hdj := (ho.cell hv).1
            have had := cell_alloc_c (.cells #[.int .i64 f] 3) hd13
            have haj := cell_alloc_c (.cells #[.int .i64 f] 3) hdj
            have hoa : Own4 (W.alloc (.cells #[.int .i64 f] 3)).drew wr.heap.size wr.heap.size vs (ageTo hot (pre.map fun x => x.1)) := (ho.alloc (.cells #[.int .i64 f] 3)).grown (grown_drew _)
            obtain ⟨v', w4, hrun, hown4, hgrow, _, hat2⟩ := run_append_own_at (P := Try.prog) (W.alloc (.cells #[.int .i64 f] 3)).drew wr.heap.size 29 29 3 i0 (.int .i64 0) 1 8 Try.underlying29 hi hz0 hz1 hz2 rfl (by decide) _ z.length (z.map iv) (hoa.own j _ z hv hzj) ⟨W.heap.size, 0, none⟩ 1 1 [.int .i64 f] rfl (cell_one_new _ _ _) (by simp [Value.oneCell']) (by unfold maxLen; omega) (by omega) (by have := ho.hi; simp; omega)
            obtain ⟨na, nc, rfl⟩ := ownsRow_slice hown4
            obtain ⟨hr0', hr1', ho4⟩ := hoa.push (x := ⟨f, hfw⟩) hv hzj hgrow hown4 hat2
            have hwB := hoa.other (show Boxed (W.alloc (.cells #[.int .i64 f] 3)).drew (wr.heap.size + 1) 24 (.slice (some ⟨wr.heap.size, 0, none⟩) 4 4) from Boxed.alloc h13 _) hv hzj hgrow; have hw13 := hwB.cell
            have hgb : ∀ k, (Value.slice va z.length vc).ownBlock = some k → wr.heap.size ≤ k := fun k e => ((ho.own j _ z hv hzj).lt k e).1
            have hko : KeepsOthers W (w4.setCell ⟨wr.heap.size, j, none⟩ (.slice na (z.length + 1) nc)) := by
              refine ((keeps_alloc_drew W (.cells #[.int .i64 f] 3)).trans (KeepsOthers.of_grownBy hgrow fun jj o ej hj => ?_)).trans (KeepsOthers.setCell _ _ _)
              exact hoa.cellsOf hv hzj ej hj
            have hbl : Below w.heap.size W (w4.setCell ⟨wr.heap.size, j, none⟩ (.slice na (z.length + 1) nc)) :=
              ((((Below.refl w.heap.size W).alloc hBW.size (.cells #[.int .i64 f] 3)).drew).grown hgrow (by have := hBW.size; simp; omega) (fun k e => by have := hgb k e; omega)).setCell (p := ⟨wr.heap.size, j, none⟩) (show w.heap.size ≤ wr.heap.size by omega) _
            have hm1 : w2.heap.size + 1 < wr.heap.size := ltOfCell hbx
            have hcm : (w4.setCell ⟨wr.heap.size, j, none⟩ (.slice na (z.length + 1) nc)).cell? ⟨w2.heap.size + 1, 0, none⟩ = some (.map (some w2.heap.size)) := by
              refine (World.cell?_setCell_far w4 ⟨wr.heap.size, j, none⟩ ⟨w2.heap.size + 1, 0, none⟩ _ (by show wr.heap.size ≠ w2.heap.size + 1; omega)).trans ?_
              exact hgrow.cell (a := ⟨w2.heap.size + 1, 0, none⟩) (cell_alloc_c _ hb8) (fun e => by have h9 : wr.heap.size ≤ w2.heap.size + 1 := hgb _ e.symm; omega)
            have hmk : (w4.setCell ⟨wr.heap.size, j, none⟩ (.slice na (z.length + 1) nc)).ownsMap Try.prog 3 (plainElem (H := Unit) Try.prog 4) w2.heap.size us.length (hotD hot) :=
              ((hmq.alloc (.cells #[.int .i64 f] 3)).drew.kept hgrow (fun e => by have := hgb _ e.symm; omega)).kept (grown_setCell w4 wr.heap.size j _) (by simp; omega)
            have hleaf : KeepsFrom (((wr.alloc (.cells #[.slice none 0 0, .slice none 0 0, .slice none 0 0, .slice none 0 0] 29)).alloc (.cells #[.slice (some ⟨wr.heap.size, 0, none⟩) 4 4] 24)).alloc (.cells #[.slice (some ⟨b, off, none⟩) 4 cap] 24)).heap.size W (w4.setCell ⟨wr.heap.size, j, none⟩ (.slice na (z.length + 1) nc)) ∧
                Below w.heap.size W (w4.setCell ⟨wr.heap.size, j, none⟩ (.slice na (z.length + 1) nc)) ∧
                (((w4.setCell ⟨wr.heap.size, j, none⟩ (.slice na (z.length + 1) nc)).cell? ⟨w2.heap.size + 1, 0, none⟩ = some (.map (some w2.heap.size)) ∧ (w4.setCell ⟨wr.heap.size, j, none⟩ (.slice na (z.length + 1) nc)).ownsMap Try.prog 3 (plainElem (H := Unit) Try.prog 4) w2.heap.size us.length (hotD hot)) ∧
                  (Boxed (w4.setCell ⟨wr.heap.size, j, none⟩ (.slice na (z.length + 1) nc)) (wr.heap.size + 1) 24 (.slice (some ⟨wr.heap.size, 0, none⟩) 4 4) ∧ ∃ vs, Own4 (w4.setCell ⟨wr.heap.size, j, none⟩ (.slice na (z.length + 1) nc)) wr.heap.size wr.heap.size vs (ageTo hot ((pre ++ [(⟨(⟨a, haw⟩, ⟨f, hfw⟩), hxm⟩ : RowIn rows)]).map fun x => x.1)))) ∧
                Below w.heap.size w (w4.setCell ⟨wr.heap.size, j, none⟩ (.slice na (z.length + 1) nc)) := by
              refine ⟨hko.from _, hbl, ⟨⟨hcm, hmk⟩, hwB.kept (grown_setCell w4 wr.heap.size j _) (by simp), vs.set j (.slice na (z.length + 1) nc), ?_⟩, hBW.trans hbl⟩
              rw [List.map_append, List.map_cons, List.map_nil, hsn]
              exact ho4
            have hi1 : (0 : Int) ≤ (j : Int) := by omega
            have hi2 : (j : Int) < 4 := by omega
            refine wpIn_region_round l hro hmx (by kernel_rfl) ?_
            refine tk (i := 1) (v := ?_) hro rfl (by kernel_rfl) (by kernel_rfl) (by kernel_rfl) ⟨.inl ⟨by rfl, ?_⟩, fun _ => rfl⟩ ?_; rotate_left
            · (intro w; go_simp; try with_reducible rfl)
            refine tk (i := 3) (v := ?_) hro rfl (by kernel_rfl) (by kernel_rfl) (by kernel_rfl) ⟨.inl ⟨by rfl, ?_⟩, fun _ => rfl⟩ ?_; rotate_left
            · (intro w; go_simp; try with_reducible rfl)
            refine tk (i := 6) (v := ?_) hro rfl (by kernel_rfl) (by kernel_rfl) (by kernel_rfl) ⟨.inl ⟨by rfl, ?_⟩, fun _ => rfl⟩ ?_; rotate_left
            · (intro w; go_simp; try with_reducible rfl)
            refine wpAnyIn_ready (rs := [0, 2, 7]) (by kernel_rfl) (by simp) (AllReadyIn.cons rfl (fun K hK => ?_) (AllReadyIn.cons rfl (fun K hK => ?_) (AllReadyIn.cons rfl (fun K hK => ?_) AllReadyIn.nil)))
            · go_simp
              refine hK _ _ ?_; clear hK K
              refine wpAnyIn_ready (rs := [2, 7]) (by kernel_rfl) (by simp) (AllReadyIn.cons rfl (fun K hK => ?_) (AllReadyIn.cons rfl (fun K hK => ?_) AllReadyIn.nil))
              · go_simp
                refine hK _ _ ?_; clear hK K
                refine tk (i := 4) (v := ?_) hro rfl (by kernel_rfl) (by kernel_rfl) (by kernel_rfl) ⟨.inl ⟨by rfl, ?_⟩, fun _ => rfl⟩ ?_; rotate_left
                · (intro w; go_simp; try with_reducible rfl)
                refine wpAnyIn_ready (rs := [5, 7]) (by kernel_rfl) (by simp) (AllReadyIn.cons rfl (fun K hK => ?_) (AllReadyIn.cons rfl (fun K hK => ?_) AllReadyIn.nil))
                · go_simp
                  refine hK _ _ ?_; clear hK K
                  refine wpAnyIn_ready (rs := [7]) (by kernel_rfl) (by simp) (AllReadyIn.cons rfl (fun K hK => ?_) AllReadyIn.nil)
                  go_simp
                  refine hK _ _ ?_; clear hK K
                  refine wpAnyIn_ready (rs := [8]) (by kernel_rfl) (by simp) (AllReadyIn.cons rfl (fun K hK => ?_) AllReadyIn.nil)
                  refine stepIn_append rfl _ _ _ rfl rfl rfl hrun ?_
                  refine hK _ _ ?_; clear hK K
                  refine tk (i := 9) (v := ?_) hro rfl (by kernel_rfl) (by kernel_rfl) (by kernel_rfl) ⟨.inl ⟨by rfl, ?_⟩, fun _ => rfl⟩ ?_; rotate_left
                  · (intro w; go_simp; try with_reducible rfl)
                  refine wpAnyIn_ready (rs := [10]) (by kernel_rfl) (by simp) (AllReadyIn.cons rfl (fun K hK => ?_) AllReadyIn.nil)
                  go_simp
                  refine hK _ _ ?_; clear hK K
                  refine wpAnyIn_done (by kernel_rfl) ?_ _
                  exact hleaf
                · go_simp
                  refine hK _ _ ?_; clear hK K
                  refine wpAnyIn_ready (rs := [5]) (by kernel_rfl) (by simp) (AllReadyIn.cons rfl (fun K hK => ?_) AllReadyIn.nil)
                  go_simp
                  refine hK _ _ ?_; clear hK K
                  refine wpAnyIn_ready (rs := [8]) (by kernel_rfl) (by simp) (AllReadyIn.cons rfl (fun K hK => ?_) AllReadyIn.nil)
                  refine stepIn_append rfl _ _ _ rfl rfl rfl hrun ?_
                  refine hK _ _ ?_; clear hK K
                  refine tk (i := 9) (v := ?_) hro rfl (by kernel_rfl) (by kernel_rfl) (by kernel_rfl) ⟨.inl ⟨by rfl, ?_⟩, fun _ => rfl⟩ ?_; rotate_left
                  · (intro w; go_simp; try with_reducible rfl)
                  refine wpAnyIn_ready (rs := [10]) (by kernel_rfl) (by simp) (AllReadyIn.cons rfl (fun K hK => ?_) AllReadyIn.nil)
                  go_simp
                  refine hK _ _ ?_; clear hK K
                  refine wpAnyIn_done (by kernel_rfl) ?_ _
                  exact hleaf
              · go_simp
                refine hK _ _ ?_; clear hK K
                refine wpAnyIn_ready (rs := [2]) (by kernel_rfl) (by simp) (AllReadyIn.cons rfl (fun K hK => ?_) AllReadyIn.nil)
                go_simp
                refine hK _ _ ?_; clear hK K
                refine tk (i := 4) (v := ?_) hro rfl (by kernel_rfl) (by kernel_rfl) (by kernel_rfl) ⟨.inl ⟨by rfl, ?_⟩, fun _ => rfl⟩ ?_; rotate_left
                · (intro w; go_simp; try with_reducible rfl)
                refine wpAnyIn_ready (rs := [5]) (by kernel_rfl) (by simp) (AllReadyIn.cons rfl (fun K hK => ?_) AllReadyIn.nil)
                go_simp
                refine hK _ _ ?_; clear hK K
                refine wpAnyIn_ready (rs := [8]) (by kernel_rfl) (by simp) (AllReadyIn.cons rfl (fun K hK => ?_) AllReadyIn.nil)
                refine stepIn_append rfl _ _ _ rfl rfl rfl hrun ?_
                refine hK _ _ ?_; clear hK K
                refine tk (i := 9) (v := ?_) hro rfl (by kernel_rfl) (by kernel_rfl) (by kernel_rfl) ⟨.inl ⟨by rfl, ?_⟩, fun _ => rfl⟩ ?_; rotate_left
                · (intro w; go_simp; try with_reducible rfl)
                refine wpAnyIn_ready (rs := [10]) (by kernel_rfl) (by simp) (AllReadyIn.cons rfl (fun K hK => ?_) AllReadyIn.nil)
                go_simp
                refine hK _ _ ?_; clear hK K
                refine wpAnyIn_done (by kernel_rfl) ?_ _
                exact hleaf
            · go_simp
              refine hK _ _ ?_; clear hK K
              refine tk (i := 4) (v := ?_) hro rfl (by kernel_rfl) (by kernel_rfl) (by kernel_rfl) ⟨.inl ⟨by rfl, ?_⟩, fun _ => rfl⟩ ?_; rotate_left
              · (intro w; go_simp; try with_reducible rfl)
              refine wpAnyIn_ready (rs := [0, 5, 7]) (by kernel_rfl) (by simp) (AllReadyIn.cons rfl (fun K hK => ?_) (AllReadyIn.cons rfl (fun K hK => ?_) (AllReadyIn.cons rfl (fun K hK => ?_) AllReadyIn.nil)))
              · go_simp
                refine hK _ _ ?_; clear hK K
                refine wpAnyIn_ready (rs := [5, 7]) (by kernel_rfl) (by simp) (AllReadyIn.cons rfl (fun K hK => ?_) (AllReadyIn.cons rfl (fun K hK => ?_) AllReadyIn.nil))
                · go_simp
                  refine hK _ _ ?_; clear hK K
                  refine wpAnyIn_ready (rs := [7]) (by kernel_rfl) (by simp) (AllReadyIn.cons rfl (fun K hK => ?_) AllReadyIn.nil)
                  go_simp
                  refine hK _ _ ?_; clear hK K
                  refine wpAnyIn_ready (rs := [8]) (by kernel_rfl) (by simp) (AllReadyIn.cons rfl (fun K hK => ?_) AllReadyIn.nil)
                  refine stepIn_append rfl _ _ _ rfl rfl rfl hrun ?_
                  refine hK _ _ ?_; clear hK K
                  refine tk (i := 9) (v := ?_) hro rfl (by kernel_rfl) (by kernel_rfl) (by kernel_rfl) ⟨.inl ⟨by rfl, ?_⟩, fun _ => rfl⟩ ?_; rotate_left
                  · (intro w; go_simp; try with_reducible rfl)
                  refine wpAnyIn_ready (rs := [10]) (by kernel_rfl) (by simp) (AllReadyIn.cons rfl (fun K hK => ?_) AllReadyIn.nil)
                  go_simp
                  refine hK _ _ ?_; clear hK K
                  refine wpAnyIn_done (by kernel_rfl) ?_ _
                  exact hleaf
                · go_simp
                  refine hK _ _ ?_; clear hK K
                  refine wpAnyIn_ready (rs := [5]) (by kernel_rfl) (by simp) (AllReadyIn.cons rfl (fun K hK => ?_) AllReadyIn.nil)
                  go_simp
                  refine hK _ _ ?_; clear hK K
                  refine wpAnyIn_ready (rs := [8]) (by kernel_rfl) (by simp) (AllReadyIn.cons rfl (fun K hK => ?_) AllReadyIn.nil)
                  refine stepIn_append rfl _ _ _ rfl rfl rfl hrun ?_
                  refine hK _ _ ?_; clear hK K
                  refine tk (i := 9) (v := ?_) hro rfl (by kernel_rfl) (by kernel_rfl) (by kernel_rfl) ⟨.inl ⟨by rfl, ?_⟩, fun _ => rfl⟩ ?_; rotate_left
                  · (intro w; go_simp; try with_reducible rfl)
                  refine wpAnyIn_ready (rs := [10]) (by kernel_rfl) (by simp) (AllReadyIn.cons rfl (fun K hK => ?_) AllReadyIn.nil)
                  go_simp
                  refine hK _ _ ?_; clear hK K
                  refine wpAnyIn_done (by kernel_rfl) ?_ _
                  exact hleaf
              · go_simp
                refine hK _ _ ?_; clear hK K
                refine wpAnyIn_ready (rs := [0, 7]) (by kernel_rfl) (by simp) (AllReadyIn.cons rfl (fun K hK => ?_) (AllReadyIn.cons rfl (fun K hK => ?_) AllReadyIn.nil))
                · go_simp
                  refine hK _ _ ?_; clear hK K
                  refine wpAnyIn_ready (rs := [7]) (by kernel_rfl) (by simp) (AllReadyIn.cons rfl (fun K hK => ?_) AllReadyIn.nil)
                  go_simp
                  refine hK _ _ ?_; clear hK K
                  refine wpAnyIn_ready (rs := [8]) (by kernel_rfl) (by simp) (AllReadyIn.cons rfl (fun K hK => ?_) AllReadyIn.nil)
                  refine stepIn_append rfl _ _ _ rfl rfl rfl hrun ?_
                  refine hK _ _ ?_; clear hK K
                  refine tk (i := 9) (v := ?_) hro rfl (by kernel_rfl) (by kernel_rfl) (by kernel_rfl) ⟨.inl ⟨by rfl, ?_⟩, fun _ => rfl⟩ ?_; rotate_left
                  · (intro w; go_simp; try with_reducible rfl)
                  refine wpAnyIn_ready (rs := [10]) (by kernel_rfl) (by simp) (AllReadyIn.cons rfl (fun K hK => ?_) AllReadyIn.nil)
                  go_simp
                  refine hK _ _ ?_; clear hK K
                  refine wpAnyIn_done (by kernel_rfl) ?_ _
                  exact hleaf
                · go_simp
                  refine hK _ _ ?_; clear hK K
                  refine wpAnyIn_ready (rs := [0, 8]) (by kernel_rfl) (by simp) (AllReadyIn.cons rfl (fun K hK => ?_) (AllReadyIn.cons rfl (fun K hK => ?_) AllReadyIn.nil))
                  · go_simp
                    refine hK _ _ ?_; clear hK K
                    refine wpAnyIn_ready (rs := [8]) (by kernel_rfl) (by simp) (AllReadyIn.cons rfl (fun K hK => ?_) AllReadyIn.nil)
                    refine stepIn_append rfl _ _ _ rfl rfl rfl hrun ?_
                    refine hK _ _ ?_; clear hK K
                    refine tk (i := 9) (v := ?_) hro rfl (by kernel_rfl) (by kernel_rfl) (by kernel_rfl) ⟨.inl ⟨by rfl, ?_⟩, fun _ => rfl⟩ ?_; rotate_left
                    · (intro w; go_simp; try with_reducible rfl)
                    refine wpAnyIn_ready (rs := [10]) (by kernel_rfl) (by simp) (AllReadyIn.cons rfl (fun K hK => ?_) AllReadyIn.nil)
                    go_simp
                    refine hK _ _ ?_; clear hK K
                    refine wpAnyIn_done (by kernel_rfl) ?_ _
                    exact hleaf
                  · refine stepIn_append rfl _ _ _ rfl rfl rfl hrun ?_
                    refine hK _ _ ?_; clear hK K
                    refine wpAnyIn_ready (rs := [0]) (by kernel_rfl) (by simp) (AllReadyIn.cons rfl (fun K hK => ?_) AllReadyIn.nil)
                    go_simp
                    refine hK _ _ ?_; clear hK K
                    refine tk (i := 9) (v := ?_) hro rfl (by kernel_rfl) (by kernel_rfl) (by kernel_rfl) ⟨.inl ⟨by rfl, ?_⟩, fun _ => rfl⟩ ?_; rotate_left
                    · (intro w; go_simp; try with_reducible rfl)
                    refine wpAnyIn_ready (rs := [10]) (by kernel_rfl) (by simp) (AllReadyIn.cons rfl (fun K hK => ?_) AllReadyIn.nil)
                    go_simp
                    refine hK _ _ ?_; clear hK K
                    refine wpAnyIn_done (by kernel_rfl) ?_ _
                    exact hleaf
              · go_simp
                refine hK _ _ ?_; clear hK K
                refine wpAnyIn_ready (rs := [0, 5]) (by kernel_rfl) (by simp) (AllReadyIn.cons rfl (fun K hK => ?_) (AllReadyIn.cons rfl (fun K hK => ?_) AllReadyIn.nil))
                · go_simp
                  refine hK _ _ ?_; clear hK K
                  refine wpAnyIn_ready (rs := [5]) (by kernel_rfl) (by simp) (AllReadyIn.cons rfl (fun K hK => ?_) AllReadyIn.nil)
                  go_simp
                  refine hK _ _ ?_; clear hK K
                  refine wpAnyIn_ready (rs := [8]) (by kernel_rfl) (by simp) (AllReadyIn.cons rfl (fun K hK => ?_) AllReadyIn.nil)
                  refine stepIn_append rfl _ _ _ rfl rfl rfl hrun ?_
                  refine hK _ _ ?_; clear hK K
                  refine tk (i := 9) (v := ?_) hro rfl (by kernel_rfl) (by kernel_rfl) (by kernel_rfl) ⟨.inl ⟨by rfl, ?_⟩, fun _ => rfl⟩ ?_; rotate_left
                  · (intro w; go_simp; try with_reducible rfl)
                  refine wpAnyIn_ready (rs := [10]) (by kernel_rfl) (by simp) (AllReadyIn.cons rfl (fun K hK => ?_) AllReadyIn.nil)
                  go_simp
                  refine hK _ _ ?_; clear hK K
                  refine wpAnyIn_done (by kernel_rfl) ?_ _
                  exact hleaf
                · go_simp
                  refine hK _ _ ?_; clear hK K
                  refine wpAnyIn_ready (rs := [0, 8]) (by kernel_rfl) (by simp) (AllReadyIn.cons rfl (fun K hK => ?_) (AllReadyIn.cons rfl (fun K hK => ?_) AllReadyIn.nil))
                  · go_simp
                    refine hK _ _ ?_; clear hK K
                    refine wpAnyIn_ready (rs := [8]) (by kernel_rfl) (by simp) (AllReadyIn.cons rfl (fun K hK => ?_) AllReadyIn.nil)
                    refine stepIn_append rfl _ _ _ rfl rfl rfl hrun ?_
                    refine hK _ _ ?_; clear hK K
                    refine tk (i := 9) (v := ?_) hro rfl (by kernel_rfl) (by kernel_rfl) (by kernel_rfl) ⟨.inl ⟨by rfl, ?_⟩, fun _ => rfl⟩ ?_; rotate_left
                    · (intro w; go_simp; try with_reducible rfl)
                    refine wpAnyIn_ready (rs := [10]) (by kernel_rfl) (by simp) (AllReadyIn.cons rfl (fun K hK => ?_) AllReadyIn.nil)
                    go_simp
                    refine hK _ _ ?_; clear hK K
                    refine wpAnyIn_done (by kernel_rfl) ?_ _
                    exact hleaf
                  · refine stepIn_append rfl _ _ _ rfl rfl rfl hrun ?_
                    refine hK _ _ ?_; clear hK K
                    refine wpAnyIn_ready (rs := [0]) (by kernel_rfl) (by simp) (AllReadyIn.cons rfl (fun K hK => ?_) AllReadyIn.nil)
                    go_simp
                    refine hK _ _ ?_; clear hK K
                    refine tk (i := 9) (v := ?_) hro rfl (by kernel_rfl) (by kernel_rfl) (by kernel_rfl) ⟨.inl ⟨by rfl, ?_⟩, fun _ => rfl⟩ ?_; rotate_left
                    · (intro w; go_simp; try with_reducible rfl)
                    refine wpAnyIn_ready (rs := [10]) (by kernel_rfl) (by simp) (AllReadyIn.cons rfl (fun K hK => ?_) AllReadyIn.nil)
                    go_simp
                    refine hK _ _ ?_; clear hK K
                    refine wpAnyIn_done (by kernel_rfl) ?_ _
                    exact hleaf
            · go_simp
              refine hK _ _ ?_; clear hK K
              refine wpAnyIn_ready (rs := [0, 2]) (by kernel_rfl) (by simp) (AllReadyIn.cons rfl (fun K hK => ?_) (AllReadyIn.cons rfl (fun K hK => ?_) AllReadyIn.nil))
              · go_simp
                refine hK _ _ ?_; clear hK K
                refine wpAnyIn_ready (rs := [2]) (by kernel_rfl) (by simp) (AllReadyIn.cons rfl (fun K hK => ?_) AllReadyIn.nil)
                go_simp
                refine hK _ _ ?_; clear hK K
                refine tk (i := 4) (v := ?_) hro rfl (by kernel_rfl) (by kernel_rfl) (by kernel_rfl) ⟨.inl ⟨by rfl, ?_⟩, fun _ => rfl⟩ ?_; rotate_left
                · (intro w; go_simp; try with_reducible rfl)
                refine wpAnyIn_ready (rs := [5]) (by kernel_rfl) (by simp) (AllReadyIn.cons rfl (fun K hK => ?_) AllReadyIn.nil)
                go_simp
                refine hK _ _ ?_; clear hK K
                refine wpAnyIn_ready (rs := [8]) (by kernel_rfl) (by simp) (AllReadyIn.cons rfl (fun K hK => ?_) AllReadyIn.nil)
                refine stepIn_append rfl _ _ _ rfl rfl rfl hrun ?_
                refine hK _ _ ?_; clear hK K
                refine tk (i := 9) (v := ?_) hro rfl (by kernel_rfl) (by kernel_rfl) (by kernel_rfl) ⟨.inl ⟨by rfl, ?_⟩, fun _ => rfl⟩ ?_; rotate_left
                · (intro w; go_simp; try with_reducible rfl)
                refine wpAnyIn_ready (rs := [10]) (by kernel_rfl) (by simp) (AllReadyIn.cons rfl (fun K hK => ?_) AllReadyIn.nil)
                go_simp
                refine hK _ _ ?_; clear hK K
                refine wpAnyIn_done (by kernel_rfl) ?_ _
                exact hleaf
              · go_simp
                refine hK _ _ ?_; clear hK K
                refine tk (i := 4) (v := ?_) hro rfl (by kernel_rfl) (by kernel_rfl) (by kernel_rfl) ⟨.inl ⟨by rfl, ?_⟩, fun _ => rfl⟩ ?_; rotate_left
                · (intro w; go_simp; try with_reducible rfl)
                refine wpAnyIn_ready (rs := [0, 5]) (by kernel_rfl) (by simp) (AllReadyIn.cons rfl (fun K hK => ?_) (AllReadyIn.cons rfl (fun K hK => ?_) AllReadyIn.nil))
                · go_simp
                  refine hK _ _ ?_; clear hK K
                  refine wpAnyIn_ready (rs := [5]) (by kernel_rfl) (by simp) (AllReadyIn.cons rfl (fun K hK => ?_) AllReadyIn.nil)
                  go_simp
                  refine hK _ _ ?_; clear hK K
                  refine wpAnyIn_ready (rs := [8]) (by kernel_rfl) (by simp) (AllReadyIn.cons rfl (fun K hK => ?_) AllReadyIn.nil)
                  refine stepIn_append rfl _ _ _ rfl rfl rfl hrun ?_
                  refine hK _ _ ?_; clear hK K
                  refine tk (i := 9) (v := ?_) hro rfl (by kernel_rfl) (by kernel_rfl) (by kernel_rfl) ⟨.inl ⟨by rfl, ?_⟩, fun _ => rfl⟩ ?_; rotate_left
                  · (intro w; go_simp; try with_reducible rfl)
                  refine wpAnyIn_ready (rs := [10]) (by kernel_rfl) (by simp) (AllReadyIn.cons rfl (fun K hK => ?_) AllReadyIn.nil)
                  go_simp
                  refine hK _ _ ?_; clear hK K
                  refine wpAnyIn_done (by kernel_rfl) ?_ _
                  exact hleaf
                · go_simp
                  refine hK _ _ ?_; clear hK K
                  refine wpAnyIn_ready (rs := [0, 8]) (by kernel_rfl) (by simp) (AllReadyIn.cons rfl (fun K hK => ?_) (AllReadyIn.cons rfl (fun K hK => ?_) AllReadyIn.nil))
                  · go_simp
                    refine hK _ _ ?_; clear hK K
                    refine wpAnyIn_ready (rs := [8]) (by kernel_rfl) (by simp) (AllReadyIn.cons rfl (fun K hK => ?_) AllReadyIn.nil)
                    refine stepIn_append rfl _ _ _ rfl rfl rfl hrun ?_
                    refine hK _ _ ?_; clear hK K
                    refine tk (i := 9) (v := ?_) hro rfl (by kernel_rfl) (by kernel_rfl) (by kernel_rfl) ⟨.inl ⟨by rfl, ?_⟩, fun _ => rfl⟩ ?_; rotate_left
                    · (intro w; go_simp; try with_reducible rfl)
                    refine wpAnyIn_ready (rs := [10]) (by kernel_rfl) (by simp) (AllReadyIn.cons rfl (fun K hK => ?_) AllReadyIn.nil)
                    go_simp
                    refine hK _ _ ?_; clear hK K
                    refine wpAnyIn_done (by kernel_rfl) ?_ _
                    exact hleaf
                  · refine stepIn_append rfl _ _ _ rfl rfl rfl hrun ?_
                    refine hK _ _ ?_; clear hK K
                    refine wpAnyIn_ready (rs := [0]) (by kernel_rfl) (by simp) (AllReadyIn.cons rfl (fun K hK => ?_) AllReadyIn.nil)
                    go_simp
                    refine hK _ _ ?_; clear hK K
                    refine tk (i := 9) (v := ?_) hro rfl (by kernel_rfl) (by kernel_rfl) (by kernel_rfl) ⟨.inl ⟨by rfl, ?_⟩, fun _ => rfl⟩ ?_; rotate_left
                    · (intro w; go_simp; try with_reducible rfl)
                    refine wpAnyIn_ready (rs := [10]) (by kernel_rfl) (by simp) (AllReadyIn.cons rfl (fun K hK => ?_) AllReadyIn.nil)
                    go_simp
                    refine hK _ _ ?_; clear hK K
                    refine wpAnyIn_done (by kernel_rfl) ?_ _
                    exact hleaf
          · have hsub : wrap64 ((a : Int) - 1) = (a : Int) - 1 := IntWalk.wrap64_in _ (by constructor <;> omega)
            have ha2 : ¬ ((1 : Int) < a) := by omega
            gi_wp2_with (first
              | (gi_at_lookup; refine wpListIn_lookup_own_bool _ rfl _ _ 51 rfl 3 4 (Maps.int_keyed Try.underlying3) Try.underlying51 Try.underlying4 (Try.zeroValue4 _) _ us.length _ rfl hmq _ _ rfl (Maps.keyOf_int_mk Try.underlying3 hfw) false hat ?_))
            have hlj : 0 < (ageTo hot (pre.map fun x => x.1)).length := by rw [ageTo_len]; omega
            obtain ⟨v, hv⟩ := ho.mem hlj
            have hzj := List.getElem?_eq_getElem hlj
            have hll := ageTo_row hot (pre.map fun x => x.1) 0
            have hpl : (pre.map fun x => x.1).length ≤ 1000 := by rw [List.length_map]; omega
            have hsn := ageTo_snoc hot (pre.map fun x => x.1) (⟨a, haw⟩, ⟨f, hfw⟩)
            rw [show toG hot (⟨a, haw⟩, ⟨f, hfw⟩) = 0 from by simp only [toG, hbb]; rw [if_neg (by decide)]; omega] at hsn
            rw [hzj, Option.getD_some] at hll hsn
            have hown1 := ho.own 0 v _ hv hzj
            generalize (ageTo hot (pre.map fun x => x.1))[0] = z at *
            obtain ⟨va, vc, rfl⟩ := ownsRow_slice hown1
            have hd13 := h13.cell
            have hdj := (ho.cell hv).1
            have had := cell_alloc_c (.cells #[.int .i64 f] 3) hd13
            have haj := cell_alloc_c (.cells #[.int .i64 f] 3) hdj
            have hoa : Own4 (W.alloc (.cells #[.int .i64 f] 3)).drew wr.heap.size wr.heap.size vs (ageTo hot (pre.map fun x => x.1)) := (ho.alloc (.cells #[.int .i64 f] 3)).grown (grown_drew _)
            obtain ⟨v', w4, hrun, hown4, hgrow, _, hat2⟩ := run_append_own_at (P := Try.prog) (W.alloc (.cells #[.int .i64 f] 3)).drew wr.heap.size 29 29 3 i0 (.int .i64 0) 1 8 Try.underlying29 hi hz0 hz1 hz2 rfl (by decide) _ z.length (z.map iv) (hoa.own 0 _ z hv hzj) ⟨W.heap.size, 0, none⟩ 1 1 [.int .i64 f] rfl (cell_one_new _ _ _) (by simp [Value.oneCell']) (by unfold maxLen; omega) (by omega) (by have := ho.hi; simp; omega)
            obtain ⟨na, nc, rfl⟩ := ownsRow_slice hown4
            obtain ⟨hr0', hr1', ho4⟩ := hoa.push (x := ⟨f, hfw⟩) hv hzj hgrow hown4 hat2
            have hwB := hoa.other (show Boxed (W.alloc (.cells #[.int .i64 f] 3)).drew (wr.heap.size + 1) 24 (.slice (some ⟨wr.heap.size, 0, none⟩) 4 4) from Boxed.alloc h13 _) hv hzj hgrow; have hw13 := hwB.cell
            have hgb : ∀ k, (Value.slice va z.length vc).ownBlock = some k → wr.heap.size ≤ k := fun k e => ((ho.own 0 _ z hv hzj).lt k e).1
            have hko : KeepsOthers W (w4.setCell ⟨wr.heap.size, 0, none⟩ (.slice na (z.length + 1) nc)) := by
              refine ((keeps_alloc_drew W (.cells #[.int .i64 f] 3)).trans (KeepsOthers.of_grownBy hgrow fun j o ej hj => ?_)).trans (KeepsOthers.setCell _ _ _)
              exact hoa.cellsOf hv hzj ej hj
            have hbl : Below w.heap.size W (w4.setCell ⟨wr.heap.size, 0, none⟩ (.slice na (z.length + 1) nc)) :=
              ((((Below.refl w.heap.size W).alloc hBW.size (.cells #[.int .i64 f] 3)).drew).grown hgrow (by have := hBW.size; simp; omega) (fun k e => by have := hgb k e; omega)).setCell (p := ⟨wr.heap.size, 0, none⟩) (show w.heap.size ≤ wr.heap.size by omega) _
            have hm1 : w2.heap.size + 1 < wr.heap.size := ltOfCell hbx
            have hcm : (w4.setCell ⟨wr.heap.size, 0, none⟩ (.slice na (z.length + 1) nc)).cell? ⟨w2.heap.size + 1, 0, none⟩ = some (.map (some w2.heap.size)) := by
              refine (World.cell?_setCell_far w4 ⟨wr.heap.size, 0, none⟩ ⟨w2.heap.size + 1, 0, none⟩ _ (by show wr.heap.size ≠ w2.heap.size + 1; omega)).trans ?_
              exact hgrow.cell (a := ⟨w2.heap.size + 1, 0, none⟩) (cell_alloc_c _ hb8) (fun e => by have h9 : wr.heap.size ≤ w2.heap.size + 1 := hgb _ e.symm; omega)
            have hmk : (w4.setCell ⟨wr.heap.size, 0, none⟩ (.slice na (z.length + 1) nc)).ownsMap Try.prog 3 (plainElem (H := Unit) Try.prog 4) w2.heap.size us.length (hotD hot) :=
              ((hmq.alloc (.cells #[.int .i64 f] 3)).drew.kept hgrow (fun e => by have := hgb _ e.symm; omega)).kept (grown_setCell w4 wr.heap.size 0 _) (by simp; omega)
            have hleaf : KeepsFrom (((wr.alloc (.cells #[.slice none 0 0, .slice none 0 0, .slice none 0 0, .slice none 0 0] 29)).alloc (.cells #[.slice (some ⟨wr.heap.size, 0, none⟩) 4 4] 24)).alloc (.cells #[.slice (some ⟨b, off, none⟩) 4 cap] 24)).heap.size W (w4.setCell ⟨wr.heap.size, 0, none⟩ (.slice na (z.length + 1) nc)) ∧
                Below w.heap.size W (w4.setCell ⟨wr.heap.size, 0, none⟩ (.slice na (z.length + 1) nc)) ∧
                (((w4.setCell ⟨wr.heap.size, 0, none⟩ (.slice na (z.length + 1) nc)).cell? ⟨w2.heap.size + 1, 0, none⟩ = some (.map (some w2.heap.size)) ∧ (w4.setCell ⟨wr.heap.size, 0, none⟩ (.slice na (z.length + 1) nc)).ownsMap Try.prog 3 (plainElem (H := Unit) Try.prog 4) w2.heap.size us.length (hotD hot)) ∧
                  (Boxed (w4.setCell ⟨wr.heap.size, 0, none⟩ (.slice na (z.length + 1) nc)) (wr.heap.size + 1) 24 (.slice (some ⟨wr.heap.size, 0, none⟩) 4 4) ∧ ∃ vs, Own4 (w4.setCell ⟨wr.heap.size, 0, none⟩ (.slice na (z.length + 1) nc)) wr.heap.size wr.heap.size vs (ageTo hot ((pre ++ [(⟨(⟨a, haw⟩, ⟨f, hfw⟩), hxm⟩ : RowIn rows)]).map fun x => x.1)))) ∧
                Below w.heap.size w (w4.setCell ⟨wr.heap.size, 0, none⟩ (.slice na (z.length + 1) nc)) := by
              refine ⟨hko.from _, hbl, ⟨⟨hcm, hmk⟩, hwB.kept (grown_setCell w4 wr.heap.size 0 _) (by simp), vs.set 0 (.slice na (z.length + 1) nc), ?_⟩, hBW.trans hbl⟩
              rw [List.map_append, List.map_cons, List.map_nil, hsn]
              exact ho4
            refine wpIn_region_round l hro hmx (by kernel_rfl) ?_
            refine tk (i := 1) (v := ?_) hro rfl (by kernel_rfl) (by kernel_rfl) (by kernel_rfl) ⟨.inl ⟨by rfl, ?_⟩, fun _ => rfl⟩ ?_; rotate_left
            · (intro w; go_simp; try with_reducible rfl)
            refine tk (i := 3) (v := ?_) hro rfl (by kernel_rfl) (by kernel_rfl) (by kernel_rfl) ⟨.inl ⟨by rfl, ?_⟩, fun _ => rfl⟩ ?_; rotate_left
            · (intro w; go_simp; try with_reducible rfl)
            refine tk (i := 6) (v := ?_) hro rfl (by kernel_rfl) (by kernel_rfl) (by kernel_rfl) ⟨.inl ⟨by rfl, ?_⟩, fun _ => rfl⟩ ?_; rotate_left
            · (intro w; go_simp; try with_reducible rfl)
            refine wpAnyIn_ready (rs := [0, 2, 7]) (by kernel_rfl) (by simp) (AllReadyIn.cons rfl (fun K hK => ?_) (AllReadyIn.cons rfl (fun K hK => ?_) (AllReadyIn.cons rfl (fun K hK => ?_) AllReadyIn.nil)))
            · go_simp
              refine hK _ _ ?_; clear hK K
              refine wpAnyIn_ready (rs := [2, 7]) (by kernel_rfl) (by simp) (AllReadyIn.cons rfl (fun K hK => ?_) (AllReadyIn.cons rfl (fun K hK => ?_) AllReadyIn.nil))
              · go_simp
                refine hK _ _ ?_; clear hK K
                refine tk (i := 4) (v := ?_) hro rfl (by kernel_rfl) (by kernel_rfl) (by kernel_rfl) ⟨.inl ⟨by rfl, ?_⟩, fun _ => rfl⟩ ?_; rotate_left
                · (intro w; go_simp; try with_reducible rfl)
                refine wpAnyIn_ready (rs := [5, 7]) (by kernel_rfl) (by simp) (AllReadyIn.cons rfl (fun K hK => ?_) (AllReadyIn.cons rfl (fun K hK => ?_) AllReadyIn.nil))
                · go_simp
                  refine hK _ _ ?_; clear hK K
                  refine wpAnyIn_ready (rs := [7]) (by kernel_rfl) (by simp) (AllReadyIn.cons rfl (fun K hK => ?_) AllReadyIn.nil)
                  go_simp
                  refine hK _ _ ?_; clear hK K
                  refine wpAnyIn_ready (rs := [8]) (by kernel_rfl) (by simp) (AllReadyIn.cons rfl (fun K hK => ?_) AllReadyIn.nil)
                  refine stepIn_append rfl _ _ _ rfl rfl rfl hrun ?_
                  refine hK _ _ ?_; clear hK K
                  refine tk (i := 9) (v := ?_) hro rfl (by kernel_rfl) (by kernel_rfl) (by kernel_rfl) ⟨.inl ⟨by rfl, ?_⟩, fun _ => rfl⟩ ?_; rotate_left
                  · (intro w; go_simp; try with_reducible rfl)
                  refine wpAnyIn_ready (rs := [10]) (by kernel_rfl) (by simp) (AllReadyIn.cons rfl (fun K hK => ?_) AllReadyIn.nil)
                  go_simp
                  refine hK _ _ ?_; clear hK K
                  refine wpAnyIn_done (by kernel_rfl) ?_ _
                  exact hleaf
                · go_simp
                  refine hK _ _ ?_; clear hK K
                  refine wpAnyIn_ready (rs := [5]) (by kernel_rfl) (by simp) (AllReadyIn.cons rfl (fun K hK => ?_) AllReadyIn.nil)
                  go_simp
                  refine hK _ _ ?_; clear hK K
                  refine wpAnyIn_ready (rs := [8]) (by kernel_rfl) (by simp) (AllReadyIn.cons rfl (fun K hK => ?_) AllReadyIn.nil)
                  refine stepIn_append rfl _ _ _ rfl rfl rfl hrun ?_
                  refine hK _ _ ?_; clear hK K
                  refine tk (i := 9) (v := ?_) hro rfl (by kernel_rfl) (by kernel_rfl) (by kernel_rfl) ⟨.inl ⟨by rfl, ?_⟩, fun _ => rfl⟩ ?_; rotate_left
                  · (intro w; go_simp; try with_reducible rfl)
                  refine wpAnyIn_ready (rs := [10]) (by kernel_rfl) (by simp) (AllReadyIn.cons rfl (fun K hK => ?_) AllReadyIn.nil)
                  go_simp
                  refine hK _ _ ?_; clear hK K
                  refine wpAnyIn_done (by kernel_rfl) ?_ _
                  exact hleaf
              · go_simp
                refine hK _ _ ?_; clear hK K
                refine wpAnyIn_ready (rs := [2]) (by kernel_rfl) (by simp) (AllReadyIn.cons rfl (fun K hK => ?_) AllReadyIn.nil)
                go_simp
                refine hK _ _ ?_; clear hK K
                refine tk (i := 4) (v := ?_) hro rfl (by kernel_rfl) (by kernel_rfl) (by kernel_rfl) ⟨.inl ⟨by rfl, ?_⟩, fun _ => rfl⟩ ?_; rotate_left
                · (intro w; go_simp; try with_reducible rfl)
                refine wpAnyIn_ready (rs := [5]) (by kernel_rfl) (by simp) (AllReadyIn.cons rfl (fun K hK => ?_) AllReadyIn.nil)
                go_simp
                refine hK _ _ ?_; clear hK K
                refine wpAnyIn_ready (rs := [8]) (by kernel_rfl) (by simp) (AllReadyIn.cons rfl (fun K hK => ?_) AllReadyIn.nil)
                refine stepIn_append rfl _ _ _ rfl rfl rfl hrun ?_
                refine hK _ _ ?_; clear hK K
                refine tk (i := 9) (v := ?_) hro rfl (by kernel_rfl) (by kernel_rfl) (by kernel_rfl) ⟨.inl ⟨by rfl, ?_⟩, fun _ => rfl⟩ ?_; rotate_left
                · (intro w; go_simp; try with_reducible rfl)
                refine wpAnyIn_ready (rs := [10]) (by kernel_rfl) (by simp) (AllReadyIn.cons rfl (fun K hK => ?_) AllReadyIn.nil)
                go_simp
                refine hK _ _ ?_; clear hK K
                refine wpAnyIn_done (by kernel_rfl) ?_ _
                exact hleaf
            · go_simp
              refine hK _ _ ?_; clear hK K
              refine tk (i := 4) (v := ?_) hro rfl (by kernel_rfl) (by kernel_rfl) (by kernel_rfl) ⟨.inl ⟨by rfl, ?_⟩, fun _ => rfl⟩ ?_; rotate_left
              · (intro w; go_simp; try with_reducible rfl)
              refine wpAnyIn_ready (rs := [0, 5, 7]) (by kernel_rfl) (by simp) (AllReadyIn.cons rfl (fun K hK => ?_) (AllReadyIn.cons rfl (fun K hK => ?_) (AllReadyIn.cons rfl (fun K hK => ?_) AllReadyIn.nil)))
              · go_simp
                refine hK _ _ ?_; clear hK K
                refine wpAnyIn_ready (rs := [5, 7]) (by kernel_rfl) (by simp) (AllReadyIn.cons rfl (fun K hK => ?_) (AllReadyIn.cons rfl (fun K hK => ?_) AllReadyIn.nil))
                · go_simp
                  refine hK _ _ ?_; clear hK K
                  refine wpAnyIn_ready (rs := [7]) (by kernel_rfl) (by simp) (AllReadyIn.cons rfl (fun K hK => ?_) AllReadyIn.nil)
                  go_simp
                  refine hK _ _ ?_; clear hK K
                  refine wpAnyIn_ready (rs := [8]) (by kernel_rfl) (by simp) (AllReadyIn.cons rfl (fun K hK => ?_) AllReadyIn.nil)
                  refine stepIn_append rfl _ _ _ rfl rfl rfl hrun ?_
                  refine hK _ _ ?_; clear hK K
                  refine tk (i := 9) (v := ?_) hro rfl (by kernel_rfl) (by kernel_rfl) (by kernel_rfl) ⟨.inl ⟨by rfl, ?_⟩, fun _ => rfl⟩ ?_; rotate_left
                  · (intro w; go_simp; try with_reducible rfl)
                  refine wpAnyIn_ready (rs := [10]) (by kernel_rfl) (by simp) (AllReadyIn.cons rfl (fun K hK => ?_) AllReadyIn.nil)
                  go_simp
                  refine hK _ _ ?_; clear hK K
                  refine wpAnyIn_done (by kernel_rfl) ?_ _
                  exact hleaf
                · go_simp
                  refine hK _ _ ?_; clear hK K
                  refine wpAnyIn_ready (rs := [5]) (by kernel_rfl) (by simp) (AllReadyIn.cons rfl (fun K hK => ?_) AllReadyIn.nil)
                  go_simp
                  refine hK _ _ ?_; clear hK K
                  refine wpAnyIn_ready (rs := [8]) (by kernel_rfl) (by simp) (AllReadyIn.cons rfl (fun K hK => ?_) AllReadyIn.nil)
                  refine stepIn_append rfl _ _ _ rfl rfl rfl hrun ?_
                  refine hK _ _ ?_; clear hK K
                  refine tk (i := 9) (v := ?_) hro rfl (by kernel_rfl) (by kernel_rfl) (by kernel_rfl) ⟨.inl ⟨by rfl, ?_⟩, fun _ => rfl⟩ ?_; rotate_left
                  · (intro w; go_simp; try with_reducible rfl)
                  refine wpAnyIn_ready (rs := [10]) (by kernel_rfl) (by simp) (AllReadyIn.cons rfl (fun K hK => ?_) AllReadyIn.nil)
                  go_simp
                  refine hK _ _ ?_; clear hK K
                  refine wpAnyIn_done (by kernel_rfl) ?_ _
                  exact hleaf
              · go_simp
                refine hK _ _ ?_; clear hK K
                refine wpAnyIn_ready (rs := [0, 7]) (by kernel_rfl) (by simp) (AllReadyIn.cons rfl (fun K hK => ?_) (AllReadyIn.cons rfl (fun K hK => ?_) AllReadyIn.nil))
                · go_simp
                  refine hK _ _ ?_; clear hK K
                  refine wpAnyIn_ready (rs := [7]) (by kernel_rfl) (by simp) (AllReadyIn.cons rfl (fun K hK => ?_) AllReadyIn.nil)
                  go_simp
                  refine hK _ _ ?_; clear hK K
                  refine wpAnyIn_ready (rs := [8]) (by kernel_rfl) (by simp) (AllReadyIn.cons rfl (fun K hK => ?_) AllReadyIn.nil)
                  refine stepIn_append rfl _ _ _ rfl rfl rfl hrun ?_
                  refine hK _ _ ?_; clear hK K
                  refine tk (i := 9) (v := ?_) hro rfl (by kernel_rfl) (by kernel_rfl) (by kernel_rfl) ⟨.inl ⟨by rfl, ?_⟩, fun _ => rfl⟩ ?_; rotate_left
                  · (intro w; go_simp; try with_reducible rfl)
                  refine wpAnyIn_ready (rs := [10]) (by kernel_rfl) (by simp) (AllReadyIn.cons rfl (fun K hK => ?_) AllReadyIn.nil)
                  go_simp
                  refine hK _ _ ?_; clear hK K
                  refine wpAnyIn_done (by kernel_rfl) ?_ _
                  exact hleaf
                · go_simp
                  refine hK _ _ ?_; clear hK K
                  refine wpAnyIn_ready (rs := [0, 8]) (by kernel_rfl) (by simp) (AllReadyIn.cons rfl (fun K hK => ?_) (AllReadyIn.cons rfl (fun K hK => ?_) AllReadyIn.nil))
                  · go_simp
                    refine hK _ _ ?_; clear hK K
                    refine wpAnyIn_ready (rs := [8]) (by kernel_rfl) (by simp) (AllReadyIn.cons rfl (fun K hK => ?_) AllReadyIn.nil)
                    refine stepIn_append rfl _ _ _ rfl rfl rfl hrun ?_
                    refine hK _ _ ?_; clear hK K
                    refine tk (i := 9) (v := ?_) hro rfl (by kernel_rfl) (by kernel_rfl) (by kernel_rfl) ⟨.inl ⟨by rfl, ?_⟩, fun _ => rfl⟩ ?_; rotate_left
                    · (intro w; go_simp; try with_reducible rfl)
                    refine wpAnyIn_ready (rs := [10]) (by kernel_rfl) (by simp) (AllReadyIn.cons rfl (fun K hK => ?_) AllReadyIn.nil)
                    go_simp
                    refine hK _ _ ?_; clear hK K
                    refine wpAnyIn_done (by kernel_rfl) ?_ _
                    exact hleaf
                  · refine stepIn_append rfl _ _ _ rfl rfl rfl hrun ?_
                    refine hK _ _ ?_; clear hK K
                    refine wpAnyIn_ready (rs := [0]) (by kernel_rfl) (by simp) (AllReadyIn.cons rfl (fun K hK => ?_) AllReadyIn.nil)
                    go_simp
                    refine hK _ _ ?_; clear hK K
                    refine tk (i := 9) (v := ?_) hro rfl (by kernel_rfl) (by kernel_rfl) (by kernel_rfl) ⟨.inl ⟨by rfl, ?_⟩, fun _ => rfl⟩ ?_; rotate_left
                    · (intro w; go_simp; try with_reducible rfl)
                    refine wpAnyIn_ready (rs := [10]) (by kernel_rfl) (by simp) (AllReadyIn.cons rfl (fun K hK => ?_) AllReadyIn.nil)
                    go_simp
                    refine hK _ _ ?_; clear hK K
                    refine wpAnyIn_done (by kernel_rfl) ?_ _
                    exact hleaf
              · go_simp
                refine hK _ _ ?_; clear hK K
                refine wpAnyIn_ready (rs := [0, 5]) (by kernel_rfl) (by simp) (AllReadyIn.cons rfl (fun K hK => ?_) (AllReadyIn.cons rfl (fun K hK => ?_) AllReadyIn.nil))
                · go_simp
                  refine hK _ _ ?_; clear hK K
                  refine wpAnyIn_ready (rs := [5]) (by kernel_rfl) (by simp) (AllReadyIn.cons rfl (fun K hK => ?_) AllReadyIn.nil)
                  go_simp
                  refine hK _ _ ?_; clear hK K
                  refine wpAnyIn_ready (rs := [8]) (by kernel_rfl) (by simp) (AllReadyIn.cons rfl (fun K hK => ?_) AllReadyIn.nil)
                  refine stepIn_append rfl _ _ _ rfl rfl rfl hrun ?_
                  refine hK _ _ ?_; clear hK K
                  refine tk (i := 9) (v := ?_) hro rfl (by kernel_rfl) (by kernel_rfl) (by kernel_rfl) ⟨.inl ⟨by rfl, ?_⟩, fun _ => rfl⟩ ?_; rotate_left
                  · (intro w; go_simp; try with_reducible rfl)
                  refine wpAnyIn_ready (rs := [10]) (by kernel_rfl) (by simp) (AllReadyIn.cons rfl (fun K hK => ?_) AllReadyIn.nil)
                  go_simp
                  refine hK _ _ ?_; clear hK K
                  refine wpAnyIn_done (by kernel_rfl) ?_ _
                  exact hleaf
                · go_simp
                  refine hK _ _ ?_; clear hK K
                  refine wpAnyIn_ready (rs := [0, 8]) (by kernel_rfl) (by simp) (AllReadyIn.cons rfl (fun K hK => ?_) (AllReadyIn.cons rfl (fun K hK => ?_) AllReadyIn.nil))
                  · go_simp
                    refine hK _ _ ?_; clear hK K
                    refine wpAnyIn_ready (rs := [8]) (by kernel_rfl) (by simp) (AllReadyIn.cons rfl (fun K hK => ?_) AllReadyIn.nil)
                    refine stepIn_append rfl _ _ _ rfl rfl rfl hrun ?_
                    refine hK _ _ ?_; clear hK K
                    refine tk (i := 9) (v := ?_) hro rfl (by kernel_rfl) (by kernel_rfl) (by kernel_rfl) ⟨.inl ⟨by rfl, ?_⟩, fun _ => rfl⟩ ?_; rotate_left
                    · (intro w; go_simp; try with_reducible rfl)
                    refine wpAnyIn_ready (rs := [10]) (by kernel_rfl) (by simp) (AllReadyIn.cons rfl (fun K hK => ?_) AllReadyIn.nil)
                    go_simp
                    refine hK _ _ ?_; clear hK K
                    refine wpAnyIn_done (by kernel_rfl) ?_ _
                    exact hleaf
                  · refine stepIn_append rfl _ _ _ rfl rfl rfl hrun ?_
                    refine hK _ _ ?_; clear hK K
                    refine wpAnyIn_ready (rs := [0]) (by kernel_rfl) (by simp) (AllReadyIn.cons rfl (fun K hK => ?_) AllReadyIn.nil)
                    go_simp
                    refine hK _ _ ?_; clear hK K
                    refine tk (i := 9) (v := ?_) hro rfl (by kernel_rfl) (by kernel_rfl) (by kernel_rfl) ⟨.inl ⟨by rfl, ?_⟩, fun _ => rfl⟩ ?_; rotate_left
                    · (intro w; go_simp; try with_reducible rfl)
                    refine wpAnyIn_ready (rs := [10]) (by kernel_rfl) (by simp) (AllReadyIn.cons rfl (fun K hK => ?_) AllReadyIn.nil)
                    go_simp
                    refine hK _ _ ?_; clear hK K
                    refine wpAnyIn_done (by kernel_rfl) ?_ _
                    exact hleaf
            · go_simp
              refine hK _ _ ?_; clear hK K
              refine wpAnyIn_ready (rs := [0, 2]) (by kernel_rfl) (by simp) (AllReadyIn.cons rfl (fun K hK => ?_) (AllReadyIn.cons rfl (fun K hK => ?_) AllReadyIn.nil))
              · go_simp
                refine hK _ _ ?_; clear hK K
                refine wpAnyIn_ready (rs := [2]) (by kernel_rfl) (by simp) (AllReadyIn.cons rfl (fun K hK => ?_) AllReadyIn.nil)
                go_simp
                refine hK _ _ ?_; clear hK K
                refine tk (i := 4) (v := ?_) hro rfl (by kernel_rfl) (by kernel_rfl) (by kernel_rfl) ⟨.inl ⟨by rfl, ?_⟩, fun _ => rfl⟩ ?_; rotate_left
                · (intro w; go_simp; try with_reducible rfl)
                refine wpAnyIn_ready (rs := [5]) (by kernel_rfl) (by simp) (AllReadyIn.cons rfl (fun K hK => ?_) AllReadyIn.nil)
                go_simp
                refine hK _ _ ?_; clear hK K
                refine wpAnyIn_ready (rs := [8]) (by kernel_rfl) (by simp) (AllReadyIn.cons rfl (fun K hK => ?_) AllReadyIn.nil)
                refine stepIn_append rfl _ _ _ rfl rfl rfl hrun ?_
                refine hK _ _ ?_; clear hK K
                refine tk (i := 9) (v := ?_) hro rfl (by kernel_rfl) (by kernel_rfl) (by kernel_rfl) ⟨.inl ⟨by rfl, ?_⟩, fun _ => rfl⟩ ?_; rotate_left
                · (intro w; go_simp; try with_reducible rfl)
                refine wpAnyIn_ready (rs := [10]) (by kernel_rfl) (by simp) (AllReadyIn.cons rfl (fun K hK => ?_) AllReadyIn.nil)
                go_simp
                refine hK _ _ ?_; clear hK K
                refine wpAnyIn_done (by kernel_rfl) ?_ _
                exact hleaf
              · go_simp
                refine hK _ _ ?_; clear hK K
                refine tk (i := 4) (v := ?_) hro rfl (by kernel_rfl) (by kernel_rfl) (by kernel_rfl) ⟨.inl ⟨by rfl, ?_⟩, fun _ => rfl⟩ ?_; rotate_left
                · (intro w; go_simp; try with_reducible rfl)
                refine wpAnyIn_ready (rs := [0, 5]) (by kernel_rfl) (by simp) (AllReadyIn.cons rfl (fun K hK => ?_) (AllReadyIn.cons rfl (fun K hK => ?_) AllReadyIn.nil))
                · go_simp
                  refine hK _ _ ?_; clear hK K
                  refine wpAnyIn_ready (rs := [5]) (by kernel_rfl) (by simp) (AllReadyIn.cons rfl (fun K hK => ?_) AllReadyIn.nil)
                  go_simp
                  refine hK _ _ ?_; clear hK K
                  refine wpAnyIn_ready (rs := [8]) (by kernel_rfl) (by simp) (AllReadyIn.cons rfl (fun K hK => ?_) AllReadyIn.nil)
                  refine stepIn_append rfl _ _ _ rfl rfl rfl hrun ?_
                  refine hK _ _ ?_; clear hK K
                  refine tk (i := 9) (v := ?_) hro rfl (by kernel_rfl) (by kernel_rfl) (by kernel_rfl) ⟨.inl ⟨by rfl, ?_⟩, fun _ => rfl⟩ ?_; rotate_left
                  · (intro w; go_simp; try with_reducible rfl)
                  refine wpAnyIn_ready (rs := [10]) (by kernel_rfl) (by simp) (AllReadyIn.cons rfl (fun K hK => ?_) AllReadyIn.nil)
                  go_simp
                  refine hK _ _ ?_; clear hK K
                  refine wpAnyIn_done (by kernel_rfl) ?_ _
                  exact hleaf
                · go_simp
                  refine hK _ _ ?_; clear hK K
                  refine wpAnyIn_ready (rs := [0, 8]) (by kernel_rfl) (by simp) (AllReadyIn.cons rfl (fun K hK => ?_) (AllReadyIn.cons rfl (fun K hK => ?_) AllReadyIn.nil))
                  · go_simp
                    refine hK _ _ ?_; clear hK K
                    refine wpAnyIn_ready (rs := [8]) (by kernel_rfl) (by simp) (AllReadyIn.cons rfl (fun K hK => ?_) AllReadyIn.nil)
                    refine stepIn_append rfl _ _ _ rfl rfl rfl hrun ?_
                    refine hK _ _ ?_; clear hK K
                    refine tk (i := 9) (v := ?_) hro rfl (by kernel_rfl) (by kernel_rfl) (by kernel_rfl) ⟨.inl ⟨by rfl, ?_⟩, fun _ => rfl⟩ ?_; rotate_left
                    · (intro w; go_simp; try with_reducible rfl)
                    refine wpAnyIn_ready (rs := [10]) (by kernel_rfl) (by simp) (AllReadyIn.cons rfl (fun K hK => ?_) AllReadyIn.nil)
                    go_simp
                    refine hK _ _ ?_; clear hK K
                    refine wpAnyIn_done (by kernel_rfl) ?_ _
                    exact hleaf
                  · refine stepIn_append rfl _ _ _ rfl rfl rfl hrun ?_
                    refine hK _ _ ?_; clear hK K
                    refine wpAnyIn_ready (rs := [0]) (by kernel_rfl) (by simp) (AllReadyIn.cons rfl (fun K hK => ?_) AllReadyIn.nil)
                    go_simp
                    refine hK _ _ ?_; clear hK K
                    refine tk (i := 9) (v := ?_) hro rfl (by kernel_rfl) (by kernel_rfl) (by kernel_rfl) ⟨.inl ⟨by rfl, ?_⟩, fun _ => rfl⟩ ?_; rotate_left
                    · (intro w; go_simp; try with_reducible rfl)
                    refine wpAnyIn_ready (rs := [10]) (by kernel_rfl) (by simp) (AllReadyIn.cons rfl (fun K hK => ?_) AllReadyIn.nil)
                    go_simp
                    refine hK _ _ ?_; clear hK K
                    refine wpAnyIn_done (by kernel_rfl) ?_ _
                    exact hleaf
        · have hsub : wrap64 ((a : Int) - 1) = (a : Int) - 1 := IntWalk.wrap64_in _ (by constructor <;> omega)
          by_cases ha : (1 : Int) < a
          · gi_wp2_with (first
              | (gi_at_lookup; refine wpListIn_lookup_own_bool _ rfl _ _ 51 rfl 3 4 (Maps.int_keyed Try.underlying3) Try.underlying51 Try.underlying4 (Try.zeroValue4 _) _ us.length _ rfl hmq _ _ rfl (Maps.keyOf_int_mk Try.underlying3 hfw) true hat ?_))
            have hlj : 3 < (ageTo hot (pre.map fun x => x.1)).length := by rw [ageTo_len]; omega
            obtain ⟨v, hv⟩ := ho.mem hlj
            have hzj := List.getElem?_eq_getElem hlj
            have hll := ageTo_row hot (pre.map fun x => x.1) 3
            have hpl : (pre.map fun x => x.1).length ≤ 1000 := by rw [List.length_map]; omega
            have hsn := ageTo_snoc hot (pre.map fun x => x.1) (⟨a, haw⟩, ⟨f, hfw⟩)
            rw [show toG hot (⟨a, haw⟩, ⟨f, hfw⟩) = 3 from by simp only [toG, hbb]; rfl] at hsn
            rw [hzj, Option.getD_some] at hll hsn
            have hown1 := ho.own 3 v _ hv hzj
            generalize (ageTo hot (pre.map fun x => x.1))[3] = z at *
            obtain ⟨va, vc, rfl⟩ := ownsRow_slice hown1
            have hd13 := h13.cell
            have hdj := (ho.cell hv).1
            have had := cell_alloc_c (.cells #[.int .i64 f] 3) hd13
            have haj := cell_alloc_c (.cells #[.int .i64 f] 3) hdj
            have hoa : Own4 (W.alloc (.cells #[.int .i64 f] 3)).drew wr.heap.size wr.heap.size vs (ageTo hot (pre.map fun x => x.1)) := (ho.alloc (.cells #[.int .i64 f] 3)).grown (grown_drew _)
            obtain ⟨v', w4, hrun, hown4, hgrow, _, hat2⟩ := run_append_own_at (P := Try.prog) (W.alloc (.cells #[.int .i64 f] 3)).drew wr.heap.size 29 29 3 i0 (.int .i64 0) 1 8 Try.underlying29 hi hz0 hz1 hz2 rfl (by decide) _ z.length (z.map iv) (hoa.own 3 _ z hv hzj) ⟨W.heap.size, 0, none⟩ 1 1 [.int .i64 f] rfl (cell_one_new _ _ _) (by simp [Value.oneCell']) (by unfold maxLen; omega) (by omega) (by have := ho.hi; simp; omega)
            obtain ⟨na, nc, rfl⟩ := ownsRow_slice hown4
            obtain ⟨hr0', hr1', ho4⟩ := hoa.push (x := ⟨f, hfw⟩) hv hzj hgrow hown4 hat2
            have hwB := hoa.other (show Boxed (W.alloc (.cells #[.int .i64 f] 3)).drew (wr.heap.size + 1) 24 (.slice (some ⟨wr.heap.size, 0, none⟩) 4 4) from Boxed.alloc h13 _) hv hzj hgrow; have hw13 := hwB.cell
            have hgb : ∀ k, (Value.slice va z.length vc).ownBlock = some k → wr.heap.size ≤ k := fun k e => ((ho.own 3 _ z hv hzj).lt k e).1
            have hko : KeepsOthers W (w4.setCell ⟨wr.heap.size, 3, none⟩ (.slice na (z.length + 1) nc)) := by
              refine ((keeps_alloc_drew W (.cells #[.int .i64 f] 3)).trans (KeepsOthers.of_grownBy hgrow fun j o ej hj => ?_)).trans (KeepsOthers.setCell _ _ _)
              exact hoa.cellsOf hv hzj ej hj
            have hbl : Below w.heap.size W (w4.setCell ⟨wr.heap.size, 3, none⟩ (.slice na (z.length + 1) nc)) :=
              ((((Below.refl w.heap.size W).alloc hBW.size (.cells #[.int .i64 f] 3)).drew).grown hgrow (by have := hBW.size; simp; omega) (fun k e => by have := hgb k e; omega)).setCell (p := ⟨wr.heap.size, 3, none⟩) (show w.heap.size ≤ wr.heap.size by omega) _
            have hm1 : w2.heap.size + 1 < wr.heap.size := ltOfCell hbx
            have hcm : (w4.setCell ⟨wr.heap.size, 3, none⟩ (.slice na (z.length + 1) nc)).cell? ⟨w2.heap.size + 1, 0, none⟩ = some (.map (some w2.heap.size)) := by
              refine (World.cell?_setCell_far w4 ⟨wr.heap.size, 3, none⟩ ⟨w2.heap.size + 1, 0, none⟩ _ (by show wr.heap.size ≠ w2.heap.size + 1; omega)).trans ?_
              exact hgrow.cell (a := ⟨w2.heap.size + 1, 0, none⟩) (cell_alloc_c _ hb8) (fun e => by have h9 : wr.heap.size ≤ w2.heap.size + 1 := hgb _ e.symm; omega)
            have hmk : (w4.setCell ⟨wr.heap.size, 3, none⟩ (.slice na (z.length + 1) nc)).ownsMap Try.prog 3 (plainElem (H := Unit) Try.prog 4) w2.heap.size us.length (hotD hot) :=
              ((hmq.alloc (.cells #[.int .i64 f] 3)).drew.kept hgrow (fun e => by have := hgb _ e.symm; omega)).kept (grown_setCell w4 wr.heap.size 3 _) (by simp; omega)
            have hleaf : KeepsFrom (((wr.alloc (.cells #[.slice none 0 0, .slice none 0 0, .slice none 0 0, .slice none 0 0] 29)).alloc (.cells #[.slice (some ⟨wr.heap.size, 0, none⟩) 4 4] 24)).alloc (.cells #[.slice (some ⟨b, off, none⟩) 4 cap] 24)).heap.size W (w4.setCell ⟨wr.heap.size, 3, none⟩ (.slice na (z.length + 1) nc)) ∧
                Below w.heap.size W (w4.setCell ⟨wr.heap.size, 3, none⟩ (.slice na (z.length + 1) nc)) ∧
                (((w4.setCell ⟨wr.heap.size, 3, none⟩ (.slice na (z.length + 1) nc)).cell? ⟨w2.heap.size + 1, 0, none⟩ = some (.map (some w2.heap.size)) ∧ (w4.setCell ⟨wr.heap.size, 3, none⟩ (.slice na (z.length + 1) nc)).ownsMap Try.prog 3 (plainElem (H := Unit) Try.prog 4) w2.heap.size us.length (hotD hot)) ∧
                  (Boxed (w4.setCell ⟨wr.heap.size, 3, none⟩ (.slice na (z.length + 1) nc)) (wr.heap.size + 1) 24 (.slice (some ⟨wr.heap.size, 0, none⟩) 4 4) ∧ ∃ vs, Own4 (w4.setCell ⟨wr.heap.size, 3, none⟩ (.slice na (z.length + 1) nc)) wr.heap.size wr.heap.size vs (ageTo hot ((pre ++ [(⟨(⟨a, haw⟩, ⟨f, hfw⟩), hxm⟩ : RowIn rows)]).map fun x => x.1)))) ∧
                Below w.heap.size w (w4.setCell ⟨wr.heap.size, 3, none⟩ (.slice na (z.length + 1) nc)) := by
              refine ⟨hko.from _, hbl, ⟨⟨hcm, hmk⟩, hwB.kept (grown_setCell w4 wr.heap.size 3 _) (by simp), vs.set 3 (.slice na (z.length + 1) nc), ?_⟩, hBW.trans hbl⟩
              rw [List.map_append, List.map_cons, List.map_nil, hsn]
              exact ho4
            refine wpIn_region_round l hro hmx (by kernel_rfl) ?_
            refine tk (i := 1) (v := ?_) hro rfl (by kernel_rfl) (by kernel_rfl) (by kernel_rfl) ⟨.inl ⟨by rfl, ?_⟩, fun _ => rfl⟩ ?_; rotate_left
            · (intro w; go_simp; try with_reducible rfl)
            refine tk (i := 3) (v := ?_) hro rfl (by kernel_rfl) (by kernel_rfl) (by kernel_rfl) ⟨.inl ⟨by rfl, ?_⟩, fun _ => rfl⟩ ?_; rotate_left
            · (intro w; go_simp; try with_reducible rfl)
            refine tk (i := 6) (v := ?_) hro rfl (by kernel_rfl) (by kernel_rfl) (by kernel_rfl) ⟨.inl ⟨by rfl, ?_⟩, fun _ => rfl⟩ ?_; rotate_left
            · (intro w; go_simp; try with_reducible rfl)
            refine wpAnyIn_ready (rs := [0, 2, 7]) (by kernel_rfl) (by simp) (AllReadyIn.cons rfl (fun K hK => ?_) (AllReadyIn.cons rfl (fun K hK => ?_) (AllReadyIn.cons rfl (fun K hK => ?_) AllReadyIn.nil)))
            · go_simp
              refine hK _ _ ?_; clear hK K
              refine wpAnyIn_ready (rs := [2, 7]) (by kernel_rfl) (by simp) (AllReadyIn.cons rfl (fun K hK => ?_) (AllReadyIn.cons rfl (fun K hK => ?_) AllReadyIn.nil))
              · go_simp
                refine hK _ _ ?_; clear hK K
                refine tk (i := 4) (v := ?_) hro rfl (by kernel_rfl) (by kernel_rfl) (by kernel_rfl) ⟨.inl ⟨by rfl, ?_⟩, fun _ => rfl⟩ ?_; rotate_left
                · (intro w; go_simp; try with_reducible rfl)
                refine wpAnyIn_ready (rs := [5, 7]) (by kernel_rfl) (by simp) (AllReadyIn.cons rfl (fun K hK => ?_) (AllReadyIn.cons rfl (fun K hK => ?_) AllReadyIn.nil))
                · go_simp
                  refine hK _ _ ?_; clear hK K
                  refine wpAnyIn_ready (rs := [7]) (by kernel_rfl) (by simp) (AllReadyIn.cons rfl (fun K hK => ?_) AllReadyIn.nil)
                  go_simp
                  refine hK _ _ ?_; clear hK K
                  refine wpAnyIn_ready (rs := [8]) (by kernel_rfl) (by simp) (AllReadyIn.cons rfl (fun K hK => ?_) AllReadyIn.nil)
                  refine stepIn_append rfl _ _ _ rfl rfl rfl hrun ?_
                  refine hK _ _ ?_; clear hK K
                  refine tk (i := 9) (v := ?_) hro rfl (by kernel_rfl) (by kernel_rfl) (by kernel_rfl) ⟨.inl ⟨by rfl, ?_⟩, fun _ => rfl⟩ ?_; rotate_left
                  · (intro w; go_simp; try with_reducible rfl)
                  refine wpAnyIn_ready (rs := [10]) (by kernel_rfl) (by simp) (AllReadyIn.cons rfl (fun K hK => ?_) AllReadyIn.nil)
                  go_simp
                  refine hK _ _ ?_; clear hK K
                  refine wpAnyIn_done (by kernel_rfl) ?_ _
                  exact hleaf
                · go_simp
                  refine hK _ _ ?_; clear hK K
                  refine wpAnyIn_ready (rs := [5]) (by kernel_rfl) (by simp) (AllReadyIn.cons rfl (fun K hK => ?_) AllReadyIn.nil)
                  go_simp
                  refine hK _ _ ?_; clear hK K
                  refine wpAnyIn_ready (rs := [8]) (by kernel_rfl) (by simp) (AllReadyIn.cons rfl (fun K hK => ?_) AllReadyIn.nil)
                  refine stepIn_append rfl _ _ _ rfl rfl rfl hrun ?_
                  refine hK _ _ ?_; clear hK K
                  refine tk (i := 9) (v := ?_) hro rfl (by kernel_rfl) (by kernel_rfl) (by kernel_rfl) ⟨.inl ⟨by rfl, ?_⟩, fun _ => rfl⟩ ?_; rotate_left
                  · (intro w; go_simp; try with_reducible rfl)
                  refine wpAnyIn_ready (rs := [10]) (by kernel_rfl) (by simp) (AllReadyIn.cons rfl (fun K hK => ?_) AllReadyIn.nil)
                  go_simp
                  refine hK _ _ ?_; clear hK K
                  refine wpAnyIn_done (by kernel_rfl) ?_ _
                  exact hleaf
              · go_simp
                refine hK _ _ ?_; clear hK K
                refine wpAnyIn_ready (rs := [2]) (by kernel_rfl) (by simp) (AllReadyIn.cons rfl (fun K hK => ?_) AllReadyIn.nil)
                go_simp
                refine hK _ _ ?_; clear hK K
                refine tk (i := 4) (v := ?_) hro rfl (by kernel_rfl) (by kernel_rfl) (by kernel_rfl) ⟨.inl ⟨by rfl, ?_⟩, fun _ => rfl⟩ ?_; rotate_left
                · (intro w; go_simp; try with_reducible rfl)
                refine wpAnyIn_ready (rs := [5]) (by kernel_rfl) (by simp) (AllReadyIn.cons rfl (fun K hK => ?_) AllReadyIn.nil)
                go_simp
                refine hK _ _ ?_; clear hK K
                refine wpAnyIn_ready (rs := [8]) (by kernel_rfl) (by simp) (AllReadyIn.cons rfl (fun K hK => ?_) AllReadyIn.nil)
                refine stepIn_append rfl _ _ _ rfl rfl rfl hrun ?_
                refine hK _ _ ?_; clear hK K
                refine tk (i := 9) (v := ?_) hro rfl (by kernel_rfl) (by kernel_rfl) (by kernel_rfl) ⟨.inl ⟨by rfl, ?_⟩, fun _ => rfl⟩ ?_; rotate_left
                · (intro w; go_simp; try with_reducible rfl)
                refine wpAnyIn_ready (rs := [10]) (by kernel_rfl) (by simp) (AllReadyIn.cons rfl (fun K hK => ?_) AllReadyIn.nil)
                go_simp
                refine hK _ _ ?_; clear hK K
                refine wpAnyIn_done (by kernel_rfl) ?_ _
                exact hleaf
            · go_simp
              refine hK _ _ ?_; clear hK K
              refine tk (i := 4) (v := ?_) hro rfl (by kernel_rfl) (by kernel_rfl) (by kernel_rfl) ⟨.inl ⟨by rfl, ?_⟩, fun _ => rfl⟩ ?_; rotate_left
              · (intro w; go_simp; try with_reducible rfl)
              refine wpAnyIn_ready (rs := [0, 5, 7]) (by kernel_rfl) (by simp) (AllReadyIn.cons rfl (fun K hK => ?_) (AllReadyIn.cons rfl (fun K hK => ?_) (AllReadyIn.cons rfl (fun K hK => ?_) AllReadyIn.nil)))
              · go_simp
                refine hK _ _ ?_; clear hK K
                refine wpAnyIn_ready (rs := [5, 7]) (by kernel_rfl) (by simp) (AllReadyIn.cons rfl (fun K hK => ?_) (AllReadyIn.cons rfl (fun K hK => ?_) AllReadyIn.nil))
                · go_simp
                  refine hK _ _ ?_; clear hK K
                  refine wpAnyIn_ready (rs := [7]) (by kernel_rfl) (by simp) (AllReadyIn.cons rfl (fun K hK => ?_) AllReadyIn.nil)
                  go_simp
                  refine hK _ _ ?_; clear hK K
                  refine wpAnyIn_ready (rs := [8]) (by kernel_rfl) (by simp) (AllReadyIn.cons rfl (fun K hK => ?_) AllReadyIn.nil)
                  refine stepIn_append rfl _ _ _ rfl rfl rfl hrun ?_
                  refine hK _ _ ?_; clear hK K
                  refine tk (i := 9) (v := ?_) hro rfl (by kernel_rfl) (by kernel_rfl) (by kernel_rfl) ⟨.inl ⟨by rfl, ?_⟩, fun _ => rfl⟩ ?_; rotate_left
                  · (intro w; go_simp; try with_reducible rfl)
                  refine wpAnyIn_ready (rs := [10]) (by kernel_rfl) (by simp) (AllReadyIn.cons rfl (fun K hK => ?_) AllReadyIn.nil)
                  go_simp
                  refine hK _ _ ?_; clear hK K
                  refine wpAnyIn_done (by kernel_rfl) ?_ _
                  exact hleaf
                · go_simp
                  refine hK _ _ ?_; clear hK K
                  refine wpAnyIn_ready (rs := [5]) (by kernel_rfl) (by simp) (AllReadyIn.cons rfl (fun K hK => ?_) AllReadyIn.nil)
                  go_simp
                  refine hK _ _ ?_; clear hK K
                  refine wpAnyIn_ready (rs := [8]) (by kernel_rfl) (by simp) (AllReadyIn.cons rfl (fun K hK => ?_) AllReadyIn.nil)
                  refine stepIn_append rfl _ _ _ rfl rfl rfl hrun ?_
                  refine hK _ _ ?_; clear hK K
                  refine tk (i := 9) (v := ?_) hro rfl (by kernel_rfl) (by kernel_rfl) (by kernel_rfl) ⟨.inl ⟨by rfl, ?_⟩, fun _ => rfl⟩ ?_; rotate_left
                  · (intro w; go_simp; try with_reducible rfl)
                  refine wpAnyIn_ready (rs := [10]) (by kernel_rfl) (by simp) (AllReadyIn.cons rfl (fun K hK => ?_) AllReadyIn.nil)
                  go_simp
                  refine hK _ _ ?_; clear hK K
                  refine wpAnyIn_done (by kernel_rfl) ?_ _
                  exact hleaf
              · go_simp
                refine hK _ _ ?_; clear hK K
                refine wpAnyIn_ready (rs := [0, 7]) (by kernel_rfl) (by simp) (AllReadyIn.cons rfl (fun K hK => ?_) (AllReadyIn.cons rfl (fun K hK => ?_) AllReadyIn.nil))
                · go_simp
                  refine hK _ _ ?_; clear hK K
                  refine wpAnyIn_ready (rs := [7]) (by kernel_rfl) (by simp) (AllReadyIn.cons rfl (fun K hK => ?_) AllReadyIn.nil)
                  go_simp
                  refine hK _ _ ?_; clear hK K
                  refine wpAnyIn_ready (rs := [8]) (by kernel_rfl) (by simp) (AllReadyIn.cons rfl (fun K hK => ?_) AllReadyIn.nil)
                  refine stepIn_append rfl _ _ _ rfl rfl rfl hrun ?_
                  refine hK _ _ ?_; clear hK K
                  refine tk (i := 9) (v := ?_) hro rfl (by kernel_rfl) (by kernel_rfl) (by kernel_rfl) ⟨.inl ⟨by rfl, ?_⟩, fun _ => rfl⟩ ?_; rotate_left
                  · (intro w; go_simp; try with_reducible rfl)
                  refine wpAnyIn_ready (rs := [10]) (by kernel_rfl) (by simp) (AllReadyIn.cons rfl (fun K hK => ?_) AllReadyIn.nil)
                  go_simp
                  refine hK _ _ ?_; clear hK K
                  refine wpAnyIn_done (by kernel_rfl) ?_ _
                  exact hleaf
                · go_simp
                  refine hK _ _ ?_; clear hK K
                  refine wpAnyIn_ready (rs := [0, 8]) (by kernel_rfl) (by simp) (AllReadyIn.cons rfl (fun K hK => ?_) (AllReadyIn.cons rfl (fun K hK => ?_) AllReadyIn.nil))
                  · go_simp
                    refine hK _ _ ?_; clear hK K
                    refine wpAnyIn_ready (rs := [8]) (by kernel_rfl) (by simp) (AllReadyIn.cons rfl (fun K hK => ?_) AllReadyIn.nil)
                    refine stepIn_append rfl _ _ _ rfl rfl rfl hrun ?_
                    refine hK _ _ ?_; clear hK K
                    refine tk (i := 9) (v := ?_) hro rfl (by kernel_rfl) (by kernel_rfl) (by kernel_rfl) ⟨.inl ⟨by rfl, ?_⟩, fun _ => rfl⟩ ?_; rotate_left
                    · (intro w; go_simp; try with_reducible rfl)
                    refine wpAnyIn_ready (rs := [10]) (by kernel_rfl) (by simp) (AllReadyIn.cons rfl (fun K hK => ?_) AllReadyIn.nil)
                    go_simp
                    refine hK _ _ ?_; clear hK K
                    refine wpAnyIn_done (by kernel_rfl) ?_ _
                    exact hleaf
                  · refine stepIn_append rfl _ _ _ rfl rfl rfl hrun ?_
                    refine hK _ _ ?_; clear hK K
                    refine wpAnyIn_ready (rs := [0]) (by kernel_rfl) (by simp) (AllReadyIn.cons rfl (fun K hK => ?_) AllReadyIn.nil)
                    go_simp
                    refine hK _ _ ?_; clear hK K
                    refine tk (i := 9) (v := ?_) hro rfl (by kernel_rfl) (by kernel_rfl) (by kernel_rfl) ⟨.inl ⟨by rfl, ?_⟩, fun _ => rfl⟩ ?_; rotate_left
                    · (intro w; go_simp; try with_reducible rfl)
                    refine wpAnyIn_ready (rs := [10]) (by kernel_rfl) (by simp) (AllReadyIn.cons rfl (fun K hK => ?_) AllReadyIn.nil)
                    go_simp
                    refine hK _ _ ?_; clear hK K
                    refine wpAnyIn_done (by kernel_rfl) ?_ _
                    exact hleaf
              · go_simp
                refine hK _ _ ?_; clear hK K
                refine wpAnyIn_ready (rs := [0, 5]) (by kernel_rfl) (by simp) (AllReadyIn.cons rfl (fun K hK => ?_) (AllReadyIn.cons rfl (fun K hK => ?_) AllReadyIn.nil))
                · go_simp
                  refine hK _ _ ?_; clear hK K
                  refine wpAnyIn_ready (rs := [5]) (by kernel_rfl) (by simp) (AllReadyIn.cons rfl (fun K hK => ?_) AllReadyIn.nil)
                  go_simp
                  refine hK _ _ ?_; clear hK K
                  refine wpAnyIn_ready (rs := [8]) (by kernel_rfl) (by simp) (AllReadyIn.cons rfl (fun K hK => ?_) AllReadyIn.nil)
                  refine stepIn_append rfl _ _ _ rfl rfl rfl hrun ?_
                  refine hK _ _ ?_; clear hK K
                  refine tk (i := 9) (v := ?_) hro rfl (by kernel_rfl) (by kernel_rfl) (by kernel_rfl) ⟨.inl ⟨by rfl, ?_⟩, fun _ => rfl⟩ ?_; rotate_left
                  · (intro w; go_simp; try with_reducible rfl)
                  refine wpAnyIn_ready (rs := [10]) (by kernel_rfl) (by simp) (AllReadyIn.cons rfl (fun K hK => ?_) AllReadyIn.nil)
                  go_simp
                  refine hK _ _ ?_; clear hK K
                  refine wpAnyIn_done (by kernel_rfl) ?_ _
                  exact hleaf
                · go_simp
                  refine hK _ _ ?_; clear hK K
                  refine wpAnyIn_ready (rs := [0, 8]) (by kernel_rfl) (by simp) (AllReadyIn.cons rfl (fun K hK => ?_) (AllReadyIn.cons rfl (fun K hK => ?_) AllReadyIn.nil))
                  · go_simp
                    refine hK _ _ ?_; clear hK K
                    refine wpAnyIn_ready (rs := [8]) (by kernel_rfl) (by simp) (AllReadyIn.cons rfl (fun K hK => ?_) AllReadyIn.nil)
                    refine stepIn_append rfl _ _ _ rfl rfl rfl hrun ?_
                    refine hK _ _ ?_; clear hK K
                    refine tk (i := 9) (v := ?_) hro rfl (by kernel_rfl) (by kernel_rfl) (by kernel_rfl) ⟨.inl ⟨by rfl, ?_⟩, fun _ => rfl⟩ ?_; rotate_left
                    · (intro w; go_simp; try with_reducible rfl)
                    refine wpAnyIn_ready (rs := [10]) (by kernel_rfl) (by simp) (AllReadyIn.cons rfl (fun K hK => ?_) AllReadyIn.nil)
                    go_simp
                    refine hK _ _ ?_; clear hK K
                    refine wpAnyIn_done (by kernel_rfl) ?_ _
                    exact hleaf
                  · refine stepIn_append rfl _ _ _ rfl rfl rfl hrun ?_
                    refine hK _ _ ?_; clear hK K
                    refine wpAnyIn_ready (rs := [0]) (by kernel_rfl) (by simp) (AllReadyIn.cons rfl (fun K hK => ?_) AllReadyIn.nil)
                    go_simp
                    refine hK _ _ ?_; clear hK K
                    refine tk (i := 9) (v := ?_) hro rfl (by kernel_rfl) (by kernel_rfl) (by kernel_rfl) ⟨.inl ⟨by rfl, ?_⟩, fun _ => rfl⟩ ?_; rotate_left
                    · (intro w; go_simp; try with_reducible rfl)
                    refine wpAnyIn_ready (rs := [10]) (by kernel_rfl) (by simp) (AllReadyIn.cons rfl (fun K hK => ?_) AllReadyIn.nil)
                    go_simp
                    refine hK _ _ ?_; clear hK K
                    refine wpAnyIn_done (by kernel_rfl) ?_ _
                    exact hleaf
            · go_simp
              refine hK _ _ ?_; clear hK K
              refine wpAnyIn_ready (rs := [0, 2]) (by kernel_rfl) (by simp) (AllReadyIn.cons rfl (fun K hK => ?_) (AllReadyIn.cons rfl (fun K hK => ?_) AllReadyIn.nil))
              · go_simp
                refine hK _ _ ?_; clear hK K
                refine wpAnyIn_ready (rs := [2]) (by kernel_rfl) (by simp) (AllReadyIn.cons rfl (fun K hK => ?_) AllReadyIn.nil)
                go_simp
                refine hK _ _ ?_; clear hK K
                refine tk (i := 4) (v := ?_) hro rfl (by kernel_rfl) (by kernel_rfl) (by kernel_rfl) ⟨.inl ⟨by rfl, ?_⟩, fun _ => rfl⟩ ?_; rotate_left
                · (intro w; go_simp; try with_reducible rfl)
                refine wpAnyIn_ready (rs := [5]) (by kernel_rfl) (by simp) (AllReadyIn.cons rfl (fun K hK => ?_) AllReadyIn.nil)
                go_simp
                refine hK _ _ ?_; clear hK K
                refine wpAnyIn_ready (rs := [8]) (by kernel_rfl) (by simp) (AllReadyIn.cons rfl (fun K hK => ?_) AllReadyIn.nil)
                refine stepIn_append rfl _ _ _ rfl rfl rfl hrun ?_
                refine hK _ _ ?_; clear hK K
                refine tk (i := 9) (v := ?_) hro rfl (by kernel_rfl) (by kernel_rfl) (by kernel_rfl) ⟨.inl ⟨by rfl, ?_⟩, fun _ => rfl⟩ ?_; rotate_left
                · (intro w; go_simp; try with_reducible rfl)
                refine wpAnyIn_ready (rs := [10]) (by kernel_rfl) (by simp) (AllReadyIn.cons rfl (fun K hK => ?_) AllReadyIn.nil)
                go_simp
                refine hK _ _ ?_; clear hK K
                refine wpAnyIn_done (by kernel_rfl) ?_ _
                exact hleaf
              · go_simp
                refine hK _ _ ?_; clear hK K
                refine tk (i := 4) (v := ?_) hro rfl (by kernel_rfl) (by kernel_rfl) (by kernel_rfl) ⟨.inl ⟨by rfl, ?_⟩, fun _ => rfl⟩ ?_; rotate_left
                · (intro w; go_simp; try with_reducible rfl)
                refine wpAnyIn_ready (rs := [0, 5]) (by kernel_rfl) (by simp) (AllReadyIn.cons rfl (fun K hK => ?_) (AllReadyIn.cons rfl (fun K hK => ?_) AllReadyIn.nil))
                · go_simp
                  refine hK _ _ ?_; clear hK K
                  refine wpAnyIn_ready (rs := [5]) (by kernel_rfl) (by simp) (AllReadyIn.cons rfl (fun K hK => ?_) AllReadyIn.nil)
                  go_simp
                  refine hK _ _ ?_; clear hK K
                  refine wpAnyIn_ready (rs := [8]) (by kernel_rfl) (by simp) (AllReadyIn.cons rfl (fun K hK => ?_) AllReadyIn.nil)
                  refine stepIn_append rfl _ _ _ rfl rfl rfl hrun ?_
                  refine hK _ _ ?_; clear hK K
                  refine tk (i := 9) (v := ?_) hro rfl (by kernel_rfl) (by kernel_rfl) (by kernel_rfl) ⟨.inl ⟨by rfl, ?_⟩, fun _ => rfl⟩ ?_; rotate_left
                  · (intro w; go_simp; try with_reducible rfl)
                  refine wpAnyIn_ready (rs := [10]) (by kernel_rfl) (by simp) (AllReadyIn.cons rfl (fun K hK => ?_) AllReadyIn.nil)
                  go_simp
                  refine hK _ _ ?_; clear hK K
                  refine wpAnyIn_done (by kernel_rfl) ?_ _
                  exact hleaf
                · go_simp
                  refine hK _ _ ?_; clear hK K
                  refine wpAnyIn_ready (rs := [0, 8]) (by kernel_rfl) (by simp) (AllReadyIn.cons rfl (fun K hK => ?_) (AllReadyIn.cons rfl (fun K hK => ?_) AllReadyIn.nil))
                  · go_simp
                    refine hK _ _ ?_; clear hK K
                    refine wpAnyIn_ready (rs := [8]) (by kernel_rfl) (by simp) (AllReadyIn.cons rfl (fun K hK => ?_) AllReadyIn.nil)
                    refine stepIn_append rfl _ _ _ rfl rfl rfl hrun ?_
                    refine hK _ _ ?_; clear hK K
                    refine tk (i := 9) (v := ?_) hro rfl (by kernel_rfl) (by kernel_rfl) (by kernel_rfl) ⟨.inl ⟨by rfl, ?_⟩, fun _ => rfl⟩ ?_; rotate_left
                    · (intro w; go_simp; try with_reducible rfl)
                    refine wpAnyIn_ready (rs := [10]) (by kernel_rfl) (by simp) (AllReadyIn.cons rfl (fun K hK => ?_) AllReadyIn.nil)
                    go_simp
                    refine hK _ _ ?_; clear hK K
                    refine wpAnyIn_done (by kernel_rfl) ?_ _
                    exact hleaf
                  · refine stepIn_append rfl _ _ _ rfl rfl rfl hrun ?_
                    refine hK _ _ ?_; clear hK K
                    refine wpAnyIn_ready (rs := [0]) (by kernel_rfl) (by simp) (AllReadyIn.cons rfl (fun K hK => ?_) AllReadyIn.nil)
                    go_simp
                    refine hK _ _ ?_; clear hK K
                    refine tk (i := 9) (v := ?_) hro rfl (by kernel_rfl) (by kernel_rfl) (by kernel_rfl) ⟨.inl ⟨by rfl, ?_⟩, fun _ => rfl⟩ ?_; rotate_left
                    · (intro w; go_simp; try with_reducible rfl)
                    refine wpAnyIn_ready (rs := [10]) (by kernel_rfl) (by simp) (AllReadyIn.cons rfl (fun K hK => ?_) AllReadyIn.nil)
                    go_simp
                    refine hK _ _ ?_; clear hK K
                    refine wpAnyIn_done (by kernel_rfl) ?_ _
                    exact hleaf
          · gi_wp2_with (first
              | (gi_at_lookup; refine wpListIn_lookup_own_bool _ rfl _ _ 51 rfl 3 4 (Maps.int_keyed Try.underlying3) Try.underlying51 Try.underlying4 (Try.zeroValue4 _) _ us.length _ rfl hmq _ _ rfl (Maps.keyOf_int_mk Try.underlying3 hfw) true hat ?_))
            have hlj : 3 < (ageTo hot (pre.map fun x => x.1)).length := by rw [ageTo_len]; omega
            obtain ⟨v, hv⟩ := ho.mem hlj
            have hzj := List.getElem?_eq_getElem hlj
            have hll := ageTo_row hot (pre.map fun x => x.1) 3
            have hpl : (pre.map fun x => x.1).length ≤ 1000 := by rw [List.length_map]; omega
            have hsn := ageTo_snoc hot (pre.map fun x => x.1) (⟨a, haw⟩, ⟨f, hfw⟩)
            rw [show toG hot (⟨a, haw⟩, ⟨f, hfw⟩) = 3 from by simp only [toG, hbb]; rfl] at hsn
            rw [hzj, Option.getD_some] at hll hsn
            have hown1 := ho.own 3 v _ hv hzj
            generalize (ageTo hot (pre.map fun x => x.1))[3] = z at *
            obtain ⟨va, vc, rfl⟩ := ownsRow_slice hown1
            have hd13 := h13.cell
            have hdj := (ho.cell hv).1
            have had := cell_alloc_c (.cells #[.int .i64 f] 3) hd13
            have haj := cell_alloc_c (.cells #[.int .i64 f] 3) hdj
            have hoa : Own4 (W.alloc (.cells #[.int .i64 f] 3)).drew wr.heap.size wr.heap.size vs (ageTo hot (pre.map fun x => x.1)) := (ho.alloc (.cells #[.int .i64 f] 3)).grown (grown_drew _)
            obtain ⟨v', w4, hrun, hown4, hgrow, _, hat2⟩ := run_append_own_at (P := Try.prog) (W.alloc (.cells #[.int .i64 f] 3)).drew wr.heap.size 29 29 3 i0 (.int .i64 0) 1 8 Try.underlying29 hi hz0 hz1 hz2 rfl (by decide) _ z.length (z.map iv) (hoa.own 3 _ z hv hzj) ⟨W.heap.size, 0, none⟩ 1 1 [.int .i64 f] rfl (cell_one_new _ _ _) (by simp [Value.oneCell']) (by unfold maxLen; omega) (by omega) (by have := ho.hi; simp; omega)
            obtain ⟨na, nc, rfl⟩ := ownsRow_slice hown4
            obtain ⟨hr0', hr1', ho4⟩ := hoa.push (x := ⟨f, hfw⟩) hv hzj hgrow hown4 hat2
            have hwB := hoa.other (show Boxed (W.alloc (.cells #[.int .i64 f] 3)).drew (wr.heap.size + 1) 24 (.slice (some ⟨wr.heap.size, 0, none⟩) 4 4) from Boxed.alloc h13 _) hv hzj hgrow; have hw13 := hwB.cell
            have hgb : ∀ k, (Value.slice va z.length vc).ownBlock = some k → wr.heap.size ≤ k := fun k e => ((ho.own 3 _ z hv hzj).lt k e).1
            have hko : KeepsOthers W (w4.setCell ⟨wr.heap.size, 3, none⟩ (.slice na (z.length + 1) nc)) := by
              refine ((keeps_alloc_drew W (.cells #[.int .i64 f] 3)).trans (KeepsOthers.of_grownBy hgrow fun j o ej hj => ?_)).trans (KeepsOthers.setCell _ _ _)
              exact hoa.cellsOf hv hzj ej hj
            have hbl : Below w.heap.size W (w4.setCell ⟨wr.heap.size, 3, none⟩ (.slice na (z.length + 1) nc)) :=
              ((((Below.refl w.heap.size W).alloc hBW.size (.cells #[.int .i64 f] 3)).drew).grown hgrow (by have := hBW.size; simp; omega) (fun k e => by have := hgb k e; omega)).setCell (p := ⟨wr.heap.size, 3, none⟩) (show w.heap.size ≤ wr.heap.size by omega) _
            have hm1 : w2.heap.size + 1 < wr.heap.size := ltOfCell hbx
            have hcm : (w4.setCell ⟨wr.heap.size, 3, none⟩ (.slice na (z.length + 1) nc)).cell? ⟨w2.heap.size + 1, 0, none⟩ = some (.map (some w2.heap.size)) := by
              refine (World.cell?_setCell_far w4 ⟨wr.heap.size, 3, none⟩ ⟨w2.heap.size + 1, 0, none⟩ _ (by show wr.heap.size ≠ w2.heap.size + 1; omega)).trans ?_
              exact hgrow.cell (a := ⟨w2.heap.size + 1, 0, none⟩) (cell_alloc_c _ hb8) (fun e => by have h9 : wr.heap.size ≤ w2.heap.size + 1 := hgb _ e.symm; omega)
            have hmk : (w4.setCell ⟨wr.heap.size, 3, none⟩ (.slice na (z.length + 1) nc)).ownsMap Try.prog 3 (plainElem (H := Unit) Try.prog 4) w2.heap.size us.length (hotD hot) :=
              ((hmq.alloc (.cells #[.int .i64 f] 3)).drew.kept hgrow (fun e => by have := hgb _ e.symm; omega)).kept (grown_setCell w4 wr.heap.size 3 _) (by simp; omega)
            have hleaf : KeepsFrom (((wr.alloc (.cells #[.slice none 0 0, .slice none 0 0, .slice none 0 0, .slice none 0 0] 29)).alloc (.cells #[.slice (some ⟨wr.heap.size, 0, none⟩) 4 4] 24)).alloc (.cells #[.slice (some ⟨b, off, none⟩) 4 cap] 24)).heap.size W (w4.setCell ⟨wr.heap.size, 3, none⟩ (.slice na (z.length + 1) nc)) ∧
                Below w.heap.size W (w4.setCell ⟨wr.heap.size, 3, none⟩ (.slice na (z.length + 1) nc)) ∧
                (((w4.setCell ⟨wr.heap.size, 3, none⟩ (.slice na (z.length + 1) nc)).cell? ⟨w2.heap.size + 1, 0, none⟩ = some (.map (some w2.heap.size)) ∧ (w4.setCell ⟨wr.heap.size, 3, none⟩ (.slice na (z.length + 1) nc)).ownsMap Try.prog 3 (plainElem (H := Unit) Try.prog 4) w2.heap.size us.length (hotD hot)) ∧
                  (Boxed (w4.setCell ⟨wr.heap.size, 3, none⟩ (.slice na (z.length + 1) nc)) (wr.heap.size + 1) 24 (.slice (some ⟨wr.heap.size, 0, none⟩) 4 4) ∧ ∃ vs, Own4 (w4.setCell ⟨wr.heap.size, 3, none⟩ (.slice na (z.length + 1) nc)) wr.heap.size wr.heap.size vs (ageTo hot ((pre ++ [(⟨(⟨a, haw⟩, ⟨f, hfw⟩), hxm⟩ : RowIn rows)]).map fun x => x.1)))) ∧
                Below w.heap.size w (w4.setCell ⟨wr.heap.size, 3, none⟩ (.slice na (z.length + 1) nc)) := by
              refine ⟨hko.from _, hbl, ⟨⟨hcm, hmk⟩, hwB.kept (grown_setCell w4 wr.heap.size 3 _) (by simp), vs.set 3 (.slice na (z.length + 1) nc), ?_⟩, hBW.trans hbl⟩
              rw [List.map_append, List.map_cons, List.map_nil, hsn]
              exact ho4
            refine wpIn_region_round l hro hmx (by kernel_rfl) ?_
            refine tk (i := 1) (v := ?_) hro rfl (by kernel_rfl) (by kernel_rfl) (by kernel_rfl) ⟨.inl ⟨by rfl, ?_⟩, fun _ => rfl⟩ ?_; rotate_left
            · (intro w; go_simp; try with_reducible rfl)
            refine tk (i := 3) (v := ?_) hro rfl (by kernel_rfl) (by kernel_rfl) (by kernel_rfl) ⟨.inl ⟨by rfl, ?_⟩, fun _ => rfl⟩ ?_; rotate_left
            · (intro w; go_simp; try with_reducible rfl)
            refine tk (i := 6) (v := ?_) hro rfl (by kernel_rfl) (by kernel_rfl) (by kernel_rfl) ⟨.inl ⟨by rfl, ?_⟩, fun _ => rfl⟩ ?_; rotate_left
            · (intro w; go_simp; try with_reducible rfl)
            refine wpAnyIn_ready (rs := [0, 2, 7]) (by kernel_rfl) (by simp) (AllReadyIn.cons rfl (fun K hK => ?_) (AllReadyIn.cons rfl (fun K hK => ?_) (AllReadyIn.cons rfl (fun K hK => ?_) AllReadyIn.nil)))
            · go_simp
              refine hK _ _ ?_; clear hK K
              refine wpAnyIn_ready (rs := [2, 7]) (by kernel_rfl) (by simp) (AllReadyIn.cons rfl (fun K hK => ?_) (AllReadyIn.cons rfl (fun K hK => ?_) AllReadyIn.nil))
              · go_simp
                refine hK _ _ ?_; clear hK K
                refine tk (i := 4) (v := ?_) hro rfl (by kernel_rfl) (by kernel_rfl) (by kernel_rfl) ⟨.inl ⟨by rfl, ?_⟩, fun _ => rfl⟩ ?_; rotate_left
                · (intro w; go_simp; try with_reducible rfl)
                refine wpAnyIn_ready (rs := [5, 7]) (by kernel_rfl) (by simp) (AllReadyIn.cons rfl (fun K hK => ?_) (AllReadyIn.cons rfl (fun K hK => ?_) AllReadyIn.nil))
                · go_simp
                  refine hK _ _ ?_; clear hK K
                  refine wpAnyIn_ready (rs := [7]) (by kernel_rfl) (by simp) (AllReadyIn.cons rfl (fun K hK => ?_) AllReadyIn.nil)
                  go_simp
                  refine hK _ _ ?_; clear hK K
                  refine wpAnyIn_ready (rs := [8]) (by kernel_rfl) (by simp) (AllReadyIn.cons rfl (fun K hK => ?_) AllReadyIn.nil)
                  refine stepIn_append rfl _ _ _ rfl rfl rfl hrun ?_
                  refine hK _ _ ?_; clear hK K
                  refine tk (i := 9) (v := ?_) hro rfl (by kernel_rfl) (by kernel_rfl) (by kernel_rfl) ⟨.inl ⟨by rfl, ?_⟩, fun _ => rfl⟩ ?_; rotate_left
                  · (intro w; go_simp; try with_reducible rfl)
                  refine wpAnyIn_ready (rs := [10]) (by kernel_rfl) (by simp) (AllReadyIn.cons rfl (fun K hK => ?_) AllReadyIn.nil)
                  go_simp
                  refine hK _ _ ?_; clear hK K
                  refine wpAnyIn_done (by kernel_rfl) ?_ _
                  exact hleaf
                · go_simp
                  refine hK _ _ ?_; clear hK K
                  refine wpAnyIn_ready (rs := [5]) (by kernel_rfl) (by simp) (AllReadyIn.cons rfl (fun K hK => ?_) AllReadyIn.nil)
                  go_simp
                  refine hK _ _ ?_; clear hK K
                  refine wpAnyIn_ready (rs := [8]) (by kernel_rfl) (by simp) (AllReadyIn.cons rfl (fun K hK => ?_) AllReadyIn.nil)
                  refine stepIn_append rfl _ _ _ rfl rfl rfl hrun ?_
                  refine hK _ _ ?_; clear hK K
                  refine tk (i := 9) (v := ?_) hro rfl (by kernel_rfl) (by kernel_rfl) (by kernel_rfl) ⟨.inl ⟨by rfl, ?_⟩, fun _ => rfl⟩ ?_; rotate_left
                  · (intro w; go_simp; try with_reducible rfl)
                  refine wpAnyIn_ready (rs := [10]) (by kernel_rfl) (by simp) (AllReadyIn.cons rfl (fun K hK => ?_) AllReadyIn.nil)
                  go_simp
                  refine hK _ _ ?_; clear hK K
                  refine wpAnyIn_done (by kernel_rfl) ?_ _
                  exact hleaf
              · go_simp
                refine hK _ _ ?_; clear hK K
                refine wpAnyIn_ready (rs := [2]) (by kernel_rfl) (by simp) (AllReadyIn.cons rfl (fun K hK => ?_) AllReadyIn.nil)
                go_simp
                refine hK _ _ ?_; clear hK K
                refine tk (i := 4) (v := ?_) hro rfl (by kernel_rfl) (by kernel_rfl) (by kernel_rfl) ⟨.inl ⟨by rfl, ?_⟩, fun _ => rfl⟩ ?_; rotate_left
                · (intro w; go_simp; try with_reducible rfl)
                refine wpAnyIn_ready (rs := [5]) (by kernel_rfl) (by simp) (AllReadyIn.cons rfl (fun K hK => ?_) AllReadyIn.nil)
                go_simp
                refine hK _ _ ?_; clear hK K
                refine wpAnyIn_ready (rs := [8]) (by kernel_rfl) (by simp) (AllReadyIn.cons rfl (fun K hK => ?_) AllReadyIn.nil)
                refine stepIn_append rfl _ _ _ rfl rfl rfl hrun ?_
                refine hK _ _ ?_; clear hK K
                refine tk (i := 9) (v := ?_) hro rfl (by kernel_rfl) (by kernel_rfl) (by kernel_rfl) ⟨.inl ⟨by rfl, ?_⟩, fun _ => rfl⟩ ?_; rotate_left
                · (intro w; go_simp; try with_reducible rfl)
                refine wpAnyIn_ready (rs := [10]) (by kernel_rfl) (by simp) (AllReadyIn.cons rfl (fun K hK => ?_) AllReadyIn.nil)
                go_simp
                refine hK _ _ ?_; clear hK K
                refine wpAnyIn_done (by kernel_rfl) ?_ _
                exact hleaf
            · go_simp
              refine hK _ _ ?_; clear hK K
              refine tk (i := 4) (v := ?_) hro rfl (by kernel_rfl) (by kernel_rfl) (by kernel_rfl) ⟨.inl ⟨by rfl, ?_⟩, fun _ => rfl⟩ ?_; rotate_left
              · (intro w; go_simp; try with_reducible rfl)
              refine wpAnyIn_ready (rs := [0, 5, 7]) (by kernel_rfl) (by simp) (AllReadyIn.cons rfl (fun K hK => ?_) (AllReadyIn.cons rfl (fun K hK => ?_) (AllReadyIn.cons rfl (fun K hK => ?_) AllReadyIn.nil)))
              · go_simp
                refine hK _ _ ?_; clear hK K
                refine wpAnyIn_ready (rs := [5, 7]) (by kernel_rfl) (by simp) (AllReadyIn.cons rfl (fun K hK => ?_) (AllReadyIn.cons rfl (fun K hK => ?_) AllReadyIn.nil))
                · go_simp
                  refine hK _ _ ?_; clear hK K
                  refine wpAnyIn_ready (rs := [7]) (by kernel_rfl) (by simp) (AllReadyIn.cons rfl (fun K hK => ?_) AllReadyIn.nil)
                  go_simp
                  refine hK _ _ ?_; clear hK K
                  refine wpAnyIn_ready (rs := [8]) (by kernel_rfl) (by simp) (AllReadyIn.cons rfl (fun K hK => ?_) AllReadyIn.nil)
                  refine stepIn_append rfl _ _ _ rfl rfl rfl hrun ?_
                  refine hK _ _ ?_; clear hK K
                  refine tk (i := 9) (v := ?_) hro rfl (by kernel_rfl) (by kernel_rfl) (by kernel_rfl) ⟨.inl ⟨by rfl, ?_⟩, fun _ => rfl⟩ ?_; rotate_left
                  · (intro w; go_simp; try with_reducible rfl)
                  refine wpAnyIn_ready (rs := [10]) (by kernel_rfl) (by simp) (AllReadyIn.cons rfl (fun K hK => ?_) AllReadyIn.nil)
                  go_simp
                  refine hK _ _ ?_; clear hK K
                  refine wpAnyIn_done (by kernel_rfl) ?_ _
                  exact hleaf
                · go_simp
                  refine hK _ _ ?_; clear hK K
                  refine wpAnyIn_ready (rs := [5]) (by kernel_rfl) (by simp) (AllReadyIn.cons rfl (fun K hK => ?_) AllReadyIn.nil)
                  go_simp
                  refine hK _ _ ?_; clear hK K
                  refine wpAnyIn_ready (rs := [8]) (by kernel_rfl) (by simp) (AllReadyIn.cons rfl (fun K hK => ?_) AllReadyIn.nil)
                  refine stepIn_append rfl _ _ _ rfl rfl rfl hrun ?_
                  refine hK _ _ ?_; clear hK K
                  refine tk (i := 9) (v := ?_) hro rfl (by kernel_rfl) (by kernel_rfl) (by kernel_rfl) ⟨.inl ⟨by rfl, ?_⟩, fun _ => rfl⟩ ?_; rotate_left
                  · (intro w; go_simp; try with_reducible rfl)
                  refine wpAnyIn_ready (rs := [10]) (by kernel_rfl) (by simp) (AllReadyIn.cons rfl (fun K hK => ?_) AllReadyIn.nil)
                  go_simp
                  refine hK _ _ ?_; clear hK K
                  refine wpAnyIn_done (by kernel_rfl) ?_ _
                  exact hleaf
              · go_simp
                refine hK _ _ ?_; clear hK K
                refine wpAnyIn_ready (rs := [0, 7]) (by kernel_rfl) (by simp) (AllReadyIn.cons rfl (fun K hK => ?_) (AllReadyIn.cons rfl (fun K hK => ?_) AllReadyIn.nil))
                · go_simp
                  refine hK _ _ ?_; clear hK K
                  refine wpAnyIn_ready (rs := [7]) (by kernel_rfl) (by simp) (AllReadyIn.cons rfl (fun K hK => ?_) AllReadyIn.nil)
                  go_simp
                  refine hK _ _ ?_; clear hK K
                  refine wpAnyIn_ready (rs := [8]) (by kernel_rfl) (by simp) (AllReadyIn.cons rfl (fun K hK => ?_) AllReadyIn.nil)
                  refine stepIn_append rfl _ _ _ rfl rfl rfl hrun ?_
                  refine hK _ _ ?_; clear hK K
                  refine tk (i := 9) (v := ?_) hro rfl (by kernel_rfl) (by kernel_rfl) (by kernel_rfl) ⟨.inl ⟨by rfl, ?_⟩, fun _ => rfl⟩ ?_; rotate_left
                  · (intro w; go_simp; try with_reducible rfl)
                  refine wpAnyIn_ready (rs := [10]) (by kernel_rfl) (by simp) (AllReadyIn.cons rfl (fun K hK => ?_) AllReadyIn.nil)
                  go_simp
                  refine hK _ _ ?_; clear hK K
                  refine wpAnyIn_done (by kernel_rfl) ?_ _
                  exact hleaf
                · go_simp
                  refine hK _ _ ?_; clear hK K
                  refine wpAnyIn_ready (rs := [0, 8]) (by kernel_rfl) (by simp) (AllReadyIn.cons rfl (fun K hK => ?_) (AllReadyIn.cons rfl (fun K hK => ?_) AllReadyIn.nil))
                  · go_simp
                    refine hK _ _ ?_; clear hK K
                    refine wpAnyIn_ready (rs := [8]) (by kernel_rfl) (by simp) (AllReadyIn.cons rfl (fun K hK => ?_) AllReadyIn.nil)
                    refine stepIn_append rfl _ _ _ rfl rfl rfl hrun ?_
                    refine hK _ _ ?_; clear hK K
                    refine tk (i := 9) (v := ?_) hro rfl (by kernel_rfl) (by kernel_rfl) (by kernel_rfl) ⟨.inl ⟨by rfl, ?_⟩, fun _ => rfl⟩ ?_; rotate_left
                    · (intro w; go_simp; try with_reducible rfl)
                    refine wpAnyIn_ready (rs := [10]) (by kernel_rfl) (by simp) (AllReadyIn.cons rfl (fun K hK => ?_) AllReadyIn.nil)
                    go_simp
                    refine hK _ _ ?_; clear hK K
                    refine wpAnyIn_done (by kernel_rfl) ?_ _
                    exact hleaf
                  · refine stepIn_append rfl _ _ _ rfl rfl rfl hrun ?_
                    refine hK _ _ ?_; clear hK K
                    refine wpAnyIn_ready (rs := [0]) (by kernel_rfl) (by simp) (AllReadyIn.cons rfl (fun K hK => ?_) AllReadyIn.nil)
                    go_simp
                    refine hK _ _ ?_; clear hK K
                    refine tk (i := 9) (v := ?_) hro rfl (by kernel_rfl) (by kernel_rfl) (by kernel_rfl) ⟨.inl ⟨by rfl, ?_⟩, fun _ => rfl⟩ ?_; rotate_left
                    · (intro w; go_simp; try with_reducible rfl)
                    refine wpAnyIn_ready (rs := [10]) (by kernel_rfl) (by simp) (AllReadyIn.cons rfl (fun K hK => ?_) AllReadyIn.nil)
                    go_simp
                    refine hK _ _ ?_; clear hK K
                    refine wpAnyIn_done (by kernel_rfl) ?_ _
                    exact hleaf
              · go_simp
                refine hK _ _ ?_; clear hK K
                refine wpAnyIn_ready (rs := [0, 5]) (by kernel_rfl) (by simp) (AllReadyIn.cons rfl (fun K hK => ?_) (AllReadyIn.cons rfl (fun K hK => ?_) AllReadyIn.nil))
                · go_simp
                  refine hK _ _ ?_; clear hK K
                  refine wpAnyIn_ready (rs := [5]) (by kernel_rfl) (by simp) (AllReadyIn.cons rfl (fun K hK => ?_) AllReadyIn.nil)
                  go_simp
                  refine hK _ _ ?_; clear hK K
                  refine wpAnyIn_ready (rs := [8]) (by kernel_rfl) (by simp) (AllReadyIn.cons rfl (fun K hK => ?_) AllReadyIn.nil)
                  refine stepIn_append rfl _ _ _ rfl rfl rfl hrun ?_
                  refine hK _ _ ?_; clear hK K
                  refine tk (i := 9) (v := ?_) hro rfl (by kernel_rfl) (by kernel_rfl) (by kernel_rfl) ⟨.inl ⟨by rfl, ?_⟩, fun _ => rfl⟩ ?_; rotate_left
                  · (intro w; go_simp; try with_reducible rfl)
                  refine wpAnyIn_ready (rs := [10]) (by kernel_rfl) (by simp) (AllReadyIn.cons rfl (fun K hK => ?_) AllReadyIn.nil)
                  go_simp
                  refine hK _ _ ?_; clear hK K
                  refine wpAnyIn_done (by kernel_rfl) ?_ _
                  exact hleaf
                · go_simp
                  refine hK _ _ ?_; clear hK K
                  refine wpAnyIn_ready (rs := [0, 8]) (by kernel_rfl) (by simp) (AllReadyIn.cons rfl (fun K hK => ?_) (AllReadyIn.cons rfl (fun K hK => ?_) AllReadyIn.nil))
                  · go_simp
                    refine hK _ _ ?_; clear hK K
                    refine wpAnyIn_ready (rs := [8]) (by kernel_rfl) (by simp) (AllReadyIn.cons rfl (fun K hK => ?_) AllReadyIn.nil)
                    refine stepIn_append rfl _ _ _ rfl rfl rfl hrun ?_
                    refine hK _ _ ?_; clear hK K
                    refine tk (i := 9) (v := ?_) hro rfl (by kernel_rfl) (by kernel_rfl) (by kernel_rfl) ⟨.inl ⟨by rfl, ?_⟩, fun _ => rfl⟩ ?_; rotate_left
                    · (intro w; go_simp; try with_reducible rfl)
                    refine wpAnyIn_ready (rs := [10]) (by kernel_rfl) (by simp) (AllReadyIn.cons rfl (fun K hK => ?_) AllReadyIn.nil)
                    go_simp
                    refine hK _ _ ?_; clear hK K
                    refine wpAnyIn_done (by kernel_rfl) ?_ _
                    exact hleaf
                  · refine stepIn_append rfl _ _ _ rfl rfl rfl hrun ?_
                    refine hK _ _ ?_; clear hK K
                    refine wpAnyIn_ready (rs := [0]) (by kernel_rfl) (by simp) (AllReadyIn.cons rfl (fun K hK => ?_) AllReadyIn.nil)
                    go_simp
                    refine hK _ _ ?_; clear hK K
                    refine tk (i := 9) (v := ?_) hro rfl (by kernel_rfl) (by kernel_rfl) (by kernel_rfl) ⟨.inl ⟨by rfl, ?_⟩, fun _ => rfl⟩ ?_; rotate_left
                    · (intro w; go_simp; try with_reducible rfl)
                    refine wpAnyIn_ready (rs := [10]) (by kernel_rfl) (by simp) (AllReadyIn.cons rfl (fun K hK => ?_) AllReadyIn.nil)
                    go_simp
                    refine hK _ _ ?_; clear hK K
                    refine wpAnyIn_done (by kernel_rfl) ?_ _
                    exact hleaf
            · go_simp
              refine hK _ _ ?_; clear hK K
              refine wpAnyIn_ready (rs := [0, 2]) (by kernel_rfl) (by simp) (AllReadyIn.cons rfl (fun K hK => ?_) (AllReadyIn.cons rfl (fun K hK => ?_) AllReadyIn.nil))
              · go_simp
                refine hK _ _ ?_; clear hK K
                refine wpAnyIn_ready (rs := [2]) (by kernel_rfl) (by simp) (AllReadyIn.cons rfl (fun K hK => ?_) AllReadyIn.nil)
                go_simp
                refine hK _ _ ?_; clear hK K
                refine tk (i := 4) (v := ?_) hro rfl (by kernel_rfl) (by kernel_rfl) (by kernel_rfl) ⟨.inl ⟨by rfl, ?_⟩, fun _ => rfl⟩ ?_; rotate_left
                · (intro w; go_simp; try with_reducible rfl)
                refine wpAnyIn_ready (rs := [5]) (by kernel_rfl) (by simp) (AllReadyIn.cons rfl (fun K hK => ?_) AllReadyIn.nil)
                go_simp
                refine hK _ _ ?_; clear hK K
                refine wpAnyIn_ready (rs := [8]) (by kernel_rfl) (by simp) (AllReadyIn.cons rfl (fun K hK => ?_) AllReadyIn.nil)
                refine stepIn_append rfl _ _ _ rfl rfl rfl hrun ?_
                refine hK _ _ ?_; clear hK K
                refine tk (i := 9) (v := ?_) hro rfl (by kernel_rfl) (by kernel_rfl) (by kernel_rfl) ⟨.inl ⟨by rfl, ?_⟩, fun _ => rfl⟩ ?_; rotate_left
                · (intro w; go_simp; try with_reducible rfl)
                refine wpAnyIn_ready (rs := [10]) (by kernel_rfl) (by simp) (AllReadyIn.cons rfl (fun K hK => ?_) AllReadyIn.nil)
                go_simp
                refine hK _ _ ?_; clear hK K
                refine wpAnyIn_done (by kernel_rfl) ?_ _
                exact hleaf
              · go_simp
                refine hK _ _ ?_; clear hK K
                refine tk (i := 4) (v := ?_) hro rfl (by kernel_rfl) (by kernel_rfl) (by kernel_rfl) ⟨.inl ⟨by rfl, ?_⟩, fun _ => rfl⟩ ?_; rotate_left
                · (intro w; go_simp; try with_reducible rfl)
                refine wpAnyIn_ready (rs := [0, 5]) (by kernel_rfl) (by simp) (AllReadyIn.cons rfl (fun K hK => ?_) (AllReadyIn.cons rfl (fun K hK => ?_) AllReadyIn.nil))
                · go_simp
                  refine hK _ _ ?_; clear hK K
                  refine wpAnyIn_ready (rs := [5]) (by kernel_rfl) (by simp) (AllReadyIn.cons rfl (fun K hK => ?_) AllReadyIn.nil)
                  go_simp
                  refine hK _ _ ?_; clear hK K
                  refine wpAnyIn_ready (rs := [8]) (by kernel_rfl) (by simp) (AllReadyIn.cons rfl (fun K hK => ?_) AllReadyIn.nil)
                  refine stepIn_append rfl _ _ _ rfl rfl rfl hrun ?_
                  refine hK _ _ ?_; clear hK K
                  refine tk (i := 9) (v := ?_) hro rfl (by kernel_rfl) (by kernel_rfl) (by kernel_rfl) ⟨.inl ⟨by rfl, ?_⟩, fun _ => rfl⟩ ?_; rotate_left
                  · (intro w; go_simp; try with_reducible rfl)
                  refine wpAnyIn_ready (rs := [10]) (by kernel_rfl) (by simp) (AllReadyIn.cons rfl (fun K hK => ?_) AllReadyIn.nil)
                  go_simp
                  refine hK _ _ ?_; clear hK K
                  refine wpAnyIn_done (by kernel_rfl) ?_ _
                  exact hleaf
                · go_simp
                  refine hK _ _ ?_; clear hK K
                  refine wpAnyIn_ready (rs := [0, 8]) (by kernel_rfl) (by simp) (AllReadyIn.cons rfl (fun K hK => ?_) (AllReadyIn.cons rfl (fun K hK => ?_) AllReadyIn.nil))
                  · go_simp
                    refine hK _ _ ?_; clear hK K
                    refine wpAnyIn_ready (rs := [8]) (by kernel_rfl) (by simp) (AllReadyIn.cons rfl (fun K hK => ?_) AllReadyIn.nil)
                    refine stepIn_append rfl _ _ _ rfl rfl rfl hrun ?_
                    refine hK _ _ ?_; clear hK K
                    refine tk (i := 9) (v := ?_) hro rfl (by kernel_rfl) (by kernel_rfl) (by kernel_rfl) ⟨.inl ⟨by rfl, ?_⟩, fun _ => rfl⟩ ?_; rotate_left
                    · (intro w; go_simp; try with_reducible rfl)
                    refine wpAnyIn_ready (rs := [10]) (by kernel_rfl) (by simp) (AllReadyIn.cons rfl (fun K hK => ?_) AllReadyIn.nil)
                    go_simp
                    refine hK _ _ ?_; clear hK K
                    refine wpAnyIn_done (by kernel_rfl) ?_ _
                    exact hleaf
                  · refine stepIn_append rfl _ _ _ rfl rfl rfl hrun ?_
                    refine hK _ _ ?_; clear hK K
                    refine wpAnyIn_ready (rs := [0]) (by kernel_rfl) (by simp) (AllReadyIn.cons rfl (fun K hK => ?_) AllReadyIn.nil)
                    go_simp
                    refine hK _ _ ?_; clear hK K
                    refine tk (i := 9) (v := ?_) hro rfl (by kernel_rfl) (by kernel_rfl) (by kernel_rfl) ⟨.inl ⟨by rfl, ?_⟩, fun _ => rfl⟩ ?_; rotate_left
                    · (intro w; go_simp; try with_reducible rfl)
                    refine wpAnyIn_ready (rs := [10]) (by kernel_rfl) (by simp) (AllReadyIn.cons rfl (fun K hK => ?_) AllReadyIn.nil)
                    go_simp
                    refine hK _ _ ?_; clear hK K
                    refine wpAnyIn_done (by kernel_rfl) ?_ _
                    exact hleaf
      case done =>
        rintro D ys W hD hys ⟨⟨⟨hb8, hmq⟩, h13, vs, ho⟩, hBW⟩ hK
        have hc13 := h13.cell
        gi_wp2
        refine ⟨by simp, .inl ⟨_, _, rfl, run_takeDeferred hK, ?_⟩⟩
        rw [hys] at ho
        refine ⟨.tuple #[.slice (some ⟨wr.heap.size, 0, none⟩) 4 4, .int .i64 0], ?_, ⟨wr.heap.size, vs, rfl, ?_, ?_⟩⟩
        · simp [results, Try.f7, go_sem]
        · rw [hhot]
          exact (ho.away (grownBy_putObj' W D _) (fun k e => by cases e; exact ⟨_, hK, rfl⟩)).mono (by omega)
        · exact hBW.trans (belowK_b (w := w) (Nat.le_refl _) W D _ _ (by simp at hD; omega) hK rfl rfl)
      case stop =>
        rintro D c pre W _ _ h _
        exact h.elim
end Go.Proofs.Ytolnhkpckbgmgaa
end
