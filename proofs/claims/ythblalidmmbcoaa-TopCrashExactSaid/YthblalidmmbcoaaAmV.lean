/- Checks of an operation's kind: each leaves its goal as it is. Generic over the program. -/
import Derived.Test.YthblalidmmbcoaaAmU
set_option linter.unusedSimpArgs false
set_option linter.unusedVariables false
namespace Go.AM
section
variable {P : Program} {e : Env} {h : Heap} {r : List AIns} {K : Env → Heap → Prop} {dst : Option Nat}
theorem k_mv {x : O} (hw : Wops P (⟨dst, .mv x, none⟩ :: r) e h K) : Wops P (⟨dst, .mv x, none⟩ :: r) e h K := hw
theorem k_pick {a b c : O} (hw : Wops P (⟨dst, .pick a b c, none⟩ :: r) e h K) : Wops P (⟨dst, .pick a b c, none⟩ :: r) e h K := hw
theorem k_alloc {z : List D} (hw : Wops P (⟨dst, .alloc z, none⟩ :: r) e h K) : Wops P (⟨dst, .alloc z, none⟩ :: r) e h K := hw
theorem k_box {x : O} (hw : Wops P (⟨dst, .box x, none⟩ :: r) e h K) : Wops P (⟨dst, .box x, none⟩ :: r) e h K := hw
theorem k_build {z : List D} {p : List (Nat × Nat × O)} (hw : Wops P (⟨dst, .build z p, none⟩ :: r) e h K) : Wops P (⟨dst, .build z p, none⟩ :: r) e h K := hw
theorem k_buildS {n m : Nat} {z : List D} {p : List (Nat × Nat × O)} (hw : Wops P (⟨dst, .buildS n z m p, none⟩ :: r) e h K) : Wops P (⟨dst, .buildS n z m p, none⟩ :: r) e h K := hw
theorem k_load {n : Nat} {a : O} (hw : Wops P (⟨dst, .load false n a, none⟩ :: r) e h K) : Wops P (⟨dst, .load false n a, none⟩ :: r) e h K := hw
theorem k_loadA {n : Nat} {a : O} (hw : Wops P (⟨dst, .load true n a, none⟩ :: r) e h K) : Wops P (⟨dst, .load true n a, none⟩ :: r) e h K := hw
theorem k_store {n : Nat} {a x : O} (hw : Wops P (⟨dst, .store n a x, none⟩ :: r) e h K) : Wops P (⟨dst, .store n a x, none⟩ :: r) e h K := hw
theorem k_nilck {x : O} (hw : Wops P (⟨dst, .nilck x, none⟩ :: r) e h K) : Wops P (⟨dst, .nilck x, none⟩ :: r) e h K := hw
theorem k_eqB {g : Bool} {x y : O} (hw : Wops P (⟨dst, .eqB g x y, none⟩ :: r) e h K) : Wops P (⟨dst, .eqB g x y, none⟩ :: r) e h K := hw
theorem k_eqA {g : Bool} {l : List Nat} {x y : O} (hw : Wops P (⟨dst, .eqA g l x y, none⟩ :: r) e h K) : Wops P (⟨dst, .eqA g l x y, none⟩ :: r) e h K := hw
theorem k_eqN {g : Bool} {x : O} (hw : Wops P (⟨dst, .eqN g x, none⟩ :: r) e h K) : Wops P (⟨dst, .eqN g x, none⟩ :: r) e h K := hw
theorem k_not {x : O} (hw : Wops P (⟨dst, .un .not x, none⟩ :: r) e h K) : Wops P (⟨dst, .un .not x, none⟩ :: r) e h K := hw
theorem k_neg {x : O} (hw : Wops P (⟨dst, .un .neg x, none⟩ :: r) e h K) : Wops P (⟨dst, .un .neg x, none⟩ :: r) e h K := hw
theorem k_conv {k : IntKind} {x : O} (hw : Wops P (⟨dst, .conv k x, none⟩ :: r) e h K) : Wops P (⟨dst, .conv k x, none⟩ :: r) e h K := hw
theorem k_strB {x : O} (hw : Wops P (⟨dst, .strB x, none⟩ :: r) e h K) : Wops P (⟨dst, .strB x, none⟩ :: r) e h K := hw
theorem k_mkfn {f : Nat} {a b : List O} (hw : Wops P (⟨dst, .mkfn f a b, none⟩ :: r) e h K) : Wops P (⟨dst, .mkfn f a b, none⟩ :: r) e h K := hw
theorem k_mkslice {n m : Nat} {z : List D} {a b : O} (hw : Wops P (⟨dst, .mkslice n m z a b, none⟩ :: r) e h K) : Wops P (⟨dst, .mkslice n m z a b, none⟩ :: r) e h K := hw
theorem k_slice {n : Nat} {x : O} {a b : Option O} (hw : Wops P (⟨dst, .slice n x a b, none⟩ :: r) e h K) : Wops P (⟨dst, .slice n x a b, none⟩ :: r) e h K := hw
theorem k_slice3 {n : Nat} {x b c : O} {a : Option O} (hw : Wops P (⟨dst, .slice3 n x a b c, none⟩ :: r) e h K) : Wops P (⟨dst, .slice3 n x a b c, none⟩ :: r) e h K := hw
theorem k_sliceM {n : Nat} {x a b : O} (hw : Wops P (⟨dst, .sliceM n x a b, none⟩ :: r) e h K) : Wops P (⟨dst, .sliceM n x a b, none⟩ :: r) e h K := hw
theorem k_clear {n : Nat} {z : List D} {x : O} (hw : Wops P (⟨dst, .clear n z x, none⟩ :: r) e h K) : Wops P (⟨dst, .clear n z x, none⟩ :: r) e h K := hw
theorem k_faddr {n : Nat} {x : O} (hw : Wops P (⟨dst, .faddr n x, none⟩ :: r) e h K) : Wops P (⟨dst, .faddr n x, none⟩ :: r) e h K := hw
theorem k_field {n m : Nat} {x : O} (hw : Wops P (⟨dst, .field false n m x, none⟩ :: r) e h K) : Wops P (⟨dst, .field false n m x, none⟩ :: r) e h K := hw
theorem k_fieldA {n m : Nat} {x : O} (hw : Wops P (⟨dst, .field true n m x, none⟩ :: r) e h K) : Wops P (⟨dst, .field true n m x, none⟩ :: r) e h K := hw
theorem k_iaddr {n : Nat} {x y : O} (hw : Wops P (⟨dst, .iaddr n x y, none⟩ :: r) e h K) : Wops P (⟨dst, .iaddr n x y, none⟩ :: r) e h K := hw
theorem k_iaddrA {n m : Nat} {x y : O} (hw : Wops P (⟨dst, .iaddrA n m x y, none⟩ :: r) e h K) : Wops P (⟨dst, .iaddrA n m x y, none⟩ :: r) e h K := hw
theorem k_index {g : Bool} {n m : Nat} {x y : O} (hw : Wops P (⟨dst, .index g n m x y, none⟩ :: r) e h K) : Wops P (⟨dst, .index g n m x y, none⟩ :: r) e h K := hw
theorem k_indexS {x y : O} (hw : Wops P (⟨dst, .indexS x y, none⟩ :: r) e h K) : Wops P (⟨dst, .indexS x y, none⟩ :: r) e h K := hw
theorem k_extract {n : Nat} {x : O} (hw : Wops P (⟨dst, .extract n x, none⟩ :: r) e h K) : Wops P (⟨dst, .extract n x, none⟩ :: r) e h K := hw
theorem k_len {x : O} (hw : Wops P (⟨dst, .len x, none⟩ :: r) e h K) : Wops P (⟨dst, .len x, none⟩ :: r) e h K := hw
theorem k_lenS {x : O} (hw : Wops P (⟨dst, .lenS x, none⟩ :: r) e h K) : Wops P (⟨dst, .lenS x, none⟩ :: r) e h K := hw
theorem k_append {n m : Nat} {x y : O} (hw : Wops P (⟨dst, .append n m x y, none⟩ :: r) e h K) : Wops P (⟨dst, .append n m x y, none⟩ :: r) e h K := hw
theorem k_copy {n : Nat} {x y : O} (hw : Wops P (⟨dst, .copy n x y, none⟩ :: r) e h K) : Wops P (⟨dst, .copy n x y, none⟩ :: r) e h K := hw
theorem k_mima {g : Bool} {l : List O} (hw : Wops P (⟨dst, .mima g l, none⟩ :: r) e h K) : Wops P (⟨dst, .mima g l, none⟩ :: r) e h K := hw
theorem k_mkmap (hw : Wops P (⟨dst, .mkmap, none⟩ :: r) e h K) : Wops P (⟨dst, .mkmap, none⟩ :: r) e h K := hw
theorem k_mapHas {x y : O} (hw : Wops P (⟨dst, .mapHas x y, none⟩ :: r) e h K) : Wops P (⟨dst, .mapHas x y, none⟩ :: r) e h K := hw
theorem k_mapPut {x y z : O} (hw : Wops P (⟨dst, .mapPut x y z, none⟩ :: r) e h K) : Wops P (⟨dst, .mapPut x y z, none⟩ :: r) e h K := hw
theorem k_callF {n : Nat} {l : List O} (hw : Wops P (⟨dst, .call (.fnc n) l, none⟩ :: r) e h K) : Wops P (⟨dst, .call (.fnc n) l, none⟩ :: r) e h K := hw
theorem k_callT {n : Nat} {l : List O} (hw : Wops P (⟨dst, .call (.tmp n) l, none⟩ :: r) e h K) : Wops P (⟨dst, .call (.tmp n) l, none⟩ :: r) e h K := hw
theorem k_add {x y : O} (hw : Wops P (⟨dst, .bin .add x y, none⟩ :: r) e h K) : Wops P (⟨dst, .bin .add x y, none⟩ :: r) e h K := hw
theorem k_sub {x y : O} (hw : Wops P (⟨dst, .bin .sub x y, none⟩ :: r) e h K) : Wops P (⟨dst, .bin .sub x y, none⟩ :: r) e h K := hw
theorem k_mul {x y : O} (hw : Wops P (⟨dst, .bin .mul x y, none⟩ :: r) e h K) : Wops P (⟨dst, .bin .mul x y, none⟩ :: r) e h K := hw
theorem k_quo {x y : O} (hw : Wops P (⟨dst, .bin .quo x y, none⟩ :: r) e h K) : Wops P (⟨dst, .bin .quo x y, none⟩ :: r) e h K := hw
theorem k_rem {x y : O} (hw : Wops P (⟨dst, .bin .rem x y, none⟩ :: r) e h K) : Wops P (⟨dst, .bin .rem x y, none⟩ :: r) e h K := hw
theorem k_and {x y : O} (hw : Wops P (⟨dst, .bin .and x y, none⟩ :: r) e h K) : Wops P (⟨dst, .bin .and x y, none⟩ :: r) e h K := hw
theorem k_or {x y : O} (hw : Wops P (⟨dst, .bin .or x y, none⟩ :: r) e h K) : Wops P (⟨dst, .bin .or x y, none⟩ :: r) e h K := hw
theorem k_xor {x y : O} (hw : Wops P (⟨dst, .bin .xor x y, none⟩ :: r) e h K) : Wops P (⟨dst, .bin .xor x y, none⟩ :: r) e h K := hw
theorem k_andNot {x y : O} (hw : Wops P (⟨dst, .bin .andNot x y, none⟩ :: r) e h K) : Wops P (⟨dst, .bin .andNot x y, none⟩ :: r) e h K := hw
theorem k_shl {x y : O} (hw : Wops P (⟨dst, .bin .shl x y, none⟩ :: r) e h K) : Wops P (⟨dst, .bin .shl x y, none⟩ :: r) e h K := hw
theorem k_shr {x y : O} (hw : Wops P (⟨dst, .bin .shr x y, none⟩ :: r) e h K) : Wops P (⟨dst, .bin .shr x y, none⟩ :: r) e h K := hw
theorem k_eql {x y : O} (hw : Wops P (⟨dst, .bin .eql x y, none⟩ :: r) e h K) : Wops P (⟨dst, .bin .eql x y, none⟩ :: r) e h K := hw
theorem k_neq {x y : O} (hw : Wops P (⟨dst, .bin .neq x y, none⟩ :: r) e h K) : Wops P (⟨dst, .bin .neq x y, none⟩ :: r) e h K := hw
theorem k_lss {x y : O} (hw : Wops P (⟨dst, .bin .lss x y, none⟩ :: r) e h K) : Wops P (⟨dst, .bin .lss x y, none⟩ :: r) e h K := hw
theorem k_leq {x y : O} (hw : Wops P (⟨dst, .bin .leq x y, none⟩ :: r) e h K) : Wops P (⟨dst, .bin .leq x y, none⟩ :: r) e h K := hw
theorem k_gtr {x y : O} (hw : Wops P (⟨dst, .bin .gtr x y, none⟩ :: r) e h K) : Wops P (⟨dst, .bin .gtr x y, none⟩ :: r) e h K := hw
theorem k_geq {x y : O} (hw : Wops P (⟨dst, .bin .geq x y, none⟩ :: r) e h K) : Wops P (⟨dst, .bin .geq x y, none⟩ :: r) e h K := hw
theorem k_guard {op : AOp} {g : Nat} {w : Bool} (hw : Wops P (⟨dst, op, some (g, w)⟩ :: r) e h K) : Wops P (⟨dst, op, some (g, w)⟩ :: r) e h K := hw
theorem k_nil (hw : Wops P [] e h K) : Wops P [] e h K := hw
end
section
variable {P : Program} {e : Env} {h : Heap} {r : List AIns} {K : Env → Prop} {dst : Option Nat}
theorem k_dguard {op : AOp} {g : Nat} {w : Bool} (hw : WdR P (⟨dst, op, some (g, w)⟩ :: r) e h K) : WdR P (⟨dst, op, some (g, w)⟩ :: r) e h K := hw
theorem k_dnil (hw : WdR P [] e h K) : WdR P [] e h K := hw
theorem k_dcall {n : Nat} {l : List O} (hw : WdR P (⟨dst, .call (.fnc n) l, none⟩ :: r) e h K) : WdR P (⟨dst, .call (.fnc n) l, none⟩ :: r) e h K := hw
theorem k_dop {op : AOp} (hw : WdR P (⟨dst, op, none⟩ :: r) e h K) : WdR P (⟨dst, op, none⟩ :: r) e h K := hw
end
section
variable {P : Program} {Q : X → St → Prop} {st : St}
theorem k_reg {ops : List AIns} {l : List Nat} (hw : W P (.reg ops l) Q st) : W P (.reg ops l) Q st := hw
theorem k_oreg {ops : List AIns} {b : List (List Nat)} {l : List Nat} (hw : W P (.oreg ops b l) Q st) : W P (.oreg ops b l) Q st := hw
theorem k_dreg {ops : List AIns} {b : List (List Nat)} {l : List Nat} (hw : W P (.dreg ops b l) Q st) : W P (.dreg ops b l) Q st := hw
theorem k_cond {c : O} {ka kb : List Nat} {a b : ACode} (hw : W P (.cond c ka a kb b) Q st) : W P (.cond c ka a kb b) Q st := hw
theorem k_br {p A B : Prop} (hw : Br p A B) : Br p A B := hw
theorem q_eqI {a b : Int} (h : a = b) : a = b := h
theorem q_eqN {a b : Nat} (h : a = b) : a = b := h
theorem q_eqL {a b : List D} (h : a = b) : a = b := h
theorem q_eqO {a b : Option D} (h : a = b) : a = b := h
theorem s_store1 {P : Program} {e : Env} {h : Heap} {r : List AIns} {K : Env → Heap → Prop} {n : Nat} {a x : O} {c new c' : List D} {k off : Nat} {d : D} (h1 : evO (get e) a = some (.pt k off)) (h2 : evO (get e) x = some d) (h3 : cellsD d = some new) (hk : h k = some c) (hl : new.length = n ∧ off + n ≤ c.length) {h' : Heap} (hh : upd h k c' = h') (hs : splice c off new = c')
    (hw : Wops P r e h' K) : Wops P (⟨none, .store n a x, none⟩ :: r) e h K := s_store0 h1 h2 h3 hk hl hs hh hw
theorem s_dregS {P : Program} {Q : X → St → Prop} {e : Env} {h : Heap} {ops pre : List AIns} {n : Nat} {a x : O} {bef : List (List Nat)} {keep : List Nat} (hs : pre ++ [⟨none, .store n a x, none⟩] = ops) (hbl : bef.length = pre.length + 1) (hro : pre.all readsOnly = true)
    (hw : ∀ K : Env → Heap → Prop, (∀ e1 h1 e2, norm keep e1 = e2 → Q .normal ⟨e2, h1⟩ → K e1 h1) → WdR P pre e h fun e' => Wops P [⟨none, .store n a x, none⟩] e' h K) : W P (.dreg ops bef keep) Q ⟨e, h⟩ := by
  subst hs
  exact W_dregS hbl hro fun K hK => hw K fun e1 h1 e2 h3 h4 => hK e1 h1 (by rw [h3]; exact h4)
theorem d_nilS {P : Program} {e : Env} {h : Heap} {l : List AIns} {K : Env → Heap → Prop} (hw : Wops P l e h K) : WdR P [] e h (fun e' => Wops P l e' h K) := hw
theorem k_con {f : Nat} {ds : List D} {h : Heap} {Q : D → Heap → Prop} (hw : Con P f ds h Q) : Con P f ds h Q := hw
end
/-! ### A drawn region, order by order -/
section
variable {P : Program} {Q : X → St → Prop} {e : Env} {h : Heap} {ops : List AIns} {bef : List (List Nat)} {K : Env → Heap → Prop}
def AllW (P : Program) (ops : List AIns) (bef : List (List Nat)) (n : Nat) (rm : List Nat) : List Nat → Env → Heap → (Env → Heap → Prop) → Prop
  | [], _, _, _ => True
  | i :: r, e, h, K => (readyA bef rm i = true → ∃ o, ops[i]? = some o ∧ Wins P o e h fun e' h' => Wany P ops bef n (rm.filter fun j => !(j == i)) e' h' K) ∧ AllW P ops bef n rm r e h K
theorem AllW_mem {n : Nat} {rm : List Nat} : ∀ {l : List Nat}, AllW P ops bef n rm l e h K → ∀ i ∈ l, readyA bef rm i = true → ∃ o, ops[i]? = some o ∧ Wins P o e h fun e' h' => Wany P ops bef n (rm.filter fun j => !(j == i)) e' h' K
  | [], _, i, hi => by cases hi
  | a :: r, hw, i, hi => by
    rcases List.mem_cons.1 hi with rfl | hi
    · exact hw.1
    · exact AllW_mem hw.2 i hi
theorem k_any {n : Nat} {rm : List Nat} (hw : Wany P ops bef n rm e h K) : Wany P ops bef n rm e h K := hw
theorem o_node {n : Nat} {rm : List Nat} (hw : AllW P ops bef n rm rm e h K) : Wany P ops bef (n + 1) rm e h K := fun i hi hr => AllW_mem hw i hi hr
theorem o_nil {n : Nat} {rm : List Nat} : AllW P ops bef n rm [] e h K := trivial
theorem o_skip {n i : Nat} {rm r : List Nat} (hs : readyA bef rm i = false) (h2 : AllW P ops bef n rm r e h K) : AllW P ops bef n rm (i :: r) e h K := ⟨fun h => by rw [hs] at h; (cases h), h2⟩
theorem o_cons {n i : Nat} {rm rm' r : List Nat} {o : AIns} (ho : ops[i]? = some o) (hrm : (rm.filter fun j => !(j == i)) = rm') (h1 : Wops P [o] e h fun e' h' => Wany P ops bef n rm' e' h' K) (h2 : AllW P ops bef n rm r e h K) : AllW P ops bef n rm (i :: r) e h K :=
  ⟨fun _ => ⟨o, ho, by rw [hrm]; exact h1⟩, h2⟩
theorem o_step {n : Nat} {rm : List Nat} (hw : Wany P ops bef n rm e h K) : Wops P [] e h (fun e' h' => Wany P ops bef n rm e' h' K) := hw
theorem o_end {rm keep : List Nat} {e2 : Env} (hK : ∀ e' h', Q .normal ⟨norm keep e', h'⟩ → K e' h') (hn : norm keep e = e2) (hq : Q .normal ⟨e2, h⟩) : Wany P ops bef 0 rm e h K := hK _ _ (by rw [hn]; exact hq)
theorem Wins_rel {o : AIns} {e' : Env} {K' : Env → Heap → Prop} (hu : ∀ t ∈ usesI o, get e' t = get e t) (hk : ∀ dd h1, K (put o.dst dd e) h1 → K' (put o.dst dd e') h1) (hw : Wins P o e h K) : Wins P o e' h K' := by
  have hop : ∀ t ∈ usesOp o.op, get e' t = get e t := fun t ht => hu t (by simp [usesI, ht])
  have run : runIns P o e h K → runIns P o e' h K' := by
    intro hr
    unfold runIns at hr ⊢
    split
    · rename_i f args hop'
      rw [hop'] at hr hop
      simp only at hr
      simp only [usesOp, List.mem_append] at hop
      rw [evO_set (fun t ht => hop t (.inl ht)), evOs_set (fun t ht => hop t (.inr ht))]
      split at hr
      · rename_i g fst caps ds h1 h2
        exact hr.mono fun _ _ h => hk _ _ h
      · exact hr.elim
    · rename_i hnc
      have hr' : if makes o.op then ∀ k, h k = none → match evOp (get e) h k o.op with | some (d, h') => K (put o.dst d e) h' | none => False
        else match evOp (get e) h 0 o.op with | some (d, h') => K (put o.dst d e) h' | none => eqN0 o.op (get e) ∧ ∀ b, K (put o.dst (.bool b) e) h := by
        cases hop : o.op <;> rw [hop] at hr <;> first | exact absurd hop (hnc _ _) | exact hr
      have heq : ∀ k, evOp (get e') h k o.op = evOp (get e) h k o.op := fun k => evOp_set hop
      split
      · rename_i hm
        rw [if_pos hm] at hr'
        intro k hk2
        have := hr' k hk2
        rw [heq]
        split at this
        · rename_i d h' he; rw [he]; exact hk _ _ this
        · exact this.elim
      · rename_i hm
        rw [if_neg hm] at hr'
        rw [heq]
        split at hr'
        · rename_i d h' he; rw [he]; exact hk _ _ hr'
        · rename_i he
          rw [he]
          obtain ⟨⟨g, x, sz, c, hx1, hx2⟩, h3⟩ := hr'
          refine ⟨⟨g, x, sz, c, hx1, ?_⟩, fun b => hk _ _ (h3 b)⟩
          rw [hx1] at hop
          rw [evO_set (fun t ht => hop t (by simpa [usesOp] using ht))]
          exact hx2
  unfold Wins at hw ⊢
  split
  · rename_i hg
    rw [hg] at hw
    exact run hw
  · rename_i t want hg
    rw [hg] at hw
    have ht : get e' t = get e t := hu t (by simp [usesI, hg])
    rw [ht]
    simp only at hw
    split
    · rename_i b hb
      rw [hb] at hw
      simp only at hw
      split
      · rename_i hbw; rw [if_pos hbw] at hw; exact run hw
      · rename_i hbw; rw [if_neg hbw] at hw; exact hk _ _ hw
    · rename_i vs hb
      rw [hb] at hw
      exact hk _ _ hw
    · rename_i hne1 hne2
      split at hw
      · rename_i b hb; exact absurd hb (hne1 b)
      · rename_i vs hb; exact absurd hb (hne2 vs)
      · exact hw
/-- What depends on the slots alone. -/
def RespE (K : Env → Heap → Prop) : Prop := ∀ e e' h, (∀ t, get e t = get e' t) → K e h → K e' h
theorem put_congr {e e' : Env} (he : ∀ t, get e t = get e' t) (dst : Option Nat) (d : D) : ∀ t, get (put dst d e) t = get (put dst d e') t := by
  intro t
  rw [get_put, get_put]
  cases dst with
  | none => exact he t
  | some a => simp only [setL]; split <;> simp [he]
theorem put_swap {e : Env} {a b : Option Nat} (h : ∀ t, a = some t → b ≠ some t) (d d' : D) : ∀ t, get (put a d (put b d' e)) t = get (put b d' (put a d e)) t := by
  intro t
  rw [get_put, get_put, get_put, get_put, setL_comm d d' (get e) h]
theorem Wany_congr (hK : RespE K) : ∀ (n : Nat) (rm : List Nat) (e e' : Env) (h : Heap), (∀ t, get e t = get e' t) → Wany P ops bef n rm e h K → Wany P ops bef n rm e' h K
  | 0, _, e, e', h, he, hw => hK e e' h he hw
  | n + 1, rm, e, e', h, he, hw => fun i hi hr => by
    obtain ⟨o, ho, h1⟩ := hw i hi hr
    exact ⟨o, ho, Wins_rel (fun t _ => (he t).symm) (fun dd h1 h2 => Wany_congr hK n _ _ _ h1 (put_congr he _ _) h2) h1⟩
/-- An operation that looks at no memory, and whose slot no other one that isn't behind it touches. -/
def pureB (ops : List AIns) (bef : List (List Nat)) (rm : List Nat) (i : Nat) : Bool :=
  rm.contains i && readyA bef rm i && match ops[i]? with
    | some o => o.guard.isNone && cls o.op == 0 && !isEqN o.op && rm.all fun y => y == i || (befAt bef y).contains i || (match ops[y]? with | some oy => slotsX o oy | none => false)
    | none => false
theorem readyA_sub {rm rm' : List Nat} (h : ∀ x ∈ rm', x ∈ rm) {y : Nat} (hr : readyA bef rm y = true) : readyA bef rm' y = true := by
  unfold readyA at *
  rw [List.all_eq_true] at *
  intro j hj
  have := hr j hj
  simp only [Bool.not_eq_true', List.contains_eq_mem, decide_eq_false_iff_not] at *
  exact fun hm => this (h j hm)
theorem filter_ne {rm : List Nat} {i x : Nat} : x ∈ rm.filter (fun j => !(j == i)) ↔ x ∈ rm ∧ x ≠ i := by simp [List.mem_filter]
theorem slotsX_sp {x y : AIns} (h : slotsX x y = true) : (∀ t, x.dst = some t → t ∉ usesI y ∧ y.dst ≠ some t) ∧ ∀ t, y.dst = some t → t ∉ usesI x := by
  unfold slotsX at h
  rw [Bool.and_eq_true] at h
  refine ⟨fun t ht => ?_, fun t ht => ?_⟩
  · have h1 := h.1
    rw [ht] at h1
    simp only [Bool.and_eq_true, Bool.not_eq_true', List.contains_eq_mem, decide_eq_false_iff_not, beq_eq_false_iff_ne] at h1
    exact h1
  · have h1 := h.2
    rw [ht] at h1
    simpa using h1
theorem Wany_pure (hK : RespE K) {i : Nat} {o : AIns} (ho : ops[i]? = some o) (hg : o.guard = none) (hc : cls o.op = 0) (hq : isEqN o.op = false) : ∀ (n : Nat) (rm : List Nat) (e : Env) (h : Heap) (d : D), rm.length = n + 1 → rm.Nodup → i ∈ rm →
    (∀ y ∈ rm, y = i ∨ i ∈ befAt bef y ∨ ∃ oy, ops[y]? = some oy ∧ slotsX o oy = true) → (∀ h2, evOp (get e) h2 0 o.op = some (d, h2)) → Wany P ops bef n (rm.filter fun j => !(j == i)) (put o.dst d e) h K → Wany P ops bef (n + 1) rm e h K
  | n, rm, e, h, d, hl, hnd, hi, hx, hev, hw => fun y hy hyr => by
    by_cases hyi : y = i
    · subst hyi
      refine ⟨o, ho, ?_⟩
      unfold Wins
      rw [hg]
      have hnm : makes o.op = false := by cases hop : o.op <;> rw [hop] at hc <;> first | rfl | (simp [cls] at hc; done)
      show runIns P o e h _
      unfold runIns
      split
      · rename_i f args hop; rw [hop] at hc; simp [cls] at hc
      · rw [if_neg (by rw [hnm]; simp), hev h]
        exact hw
    · have hfy : ∃ oy, ops[y]? = some oy ∧ slotsX o oy = true := by
        rcases hx y hy with h1 | h1 | h1
        · exact absurd h1 hyi
        · exfalso
          unfold readyA at hyr
          have := List.all_eq_true.1 hyr i h1
          simp [hi] at this
        · exact h1
      obtain ⟨oy, hoy, hs⟩ := hfy
      obtain ⟨s1, s2⟩ := slotsX_sp hs
      have hln : (rm.filter fun j => !(j == i)).length = n := by
        have h2 : (rm.erase i).length = rm.length - 1 := List.length_erase_of_mem hi
        have h3 : rm.erase i = rm.filter fun j => j != i := List.Nodup.erase_eq_filter hnd i
        have h4 : (rm.filter fun j => !(j == i)) = rm.filter fun j => j != i := by apply List.filter_congr; intro a _; rfl
        rw [h4, ← h3, h2, hl]; omega
      cases n with
      | zero =>
        exfalso
        have : y ∈ rm.filter fun j => !(j == i) := filter_ne.2 ⟨hy, hyi⟩
        rw [List.length_eq_zero_iff.1 hln] at this
        cases this
      | succ m =>
        obtain ⟨oy2, hoy2, hwy⟩ := hw y (filter_ne.2 ⟨hy, hyi⟩) (readyA_sub (fun x hx => (filter_ne.1 hx).1) hyr)
        rw [hoy] at hoy2
        injection hoy2 with hoy2
        subst hoy2
        refine ⟨oy, hoy, Wins_rel (e := put o.dst d e) (fun t ht => ?_) (fun dd h1 h2 => ?_) hwy⟩
        · rw [get_put]
          cases hd : o.dst with
          | none => rfl
          | some a =>
            simp only [setL]
            rw [if_neg]
            rintro rfl
            exact (s1 a hd).1 ht
        · have hly : (rm.filter fun j => !(j == y)).length = m + 1 := by
            have h2 : (rm.erase y).length = rm.length - 1 := List.length_erase_of_mem hy
            have h3 : rm.erase y = rm.filter fun j => j != y := List.Nodup.erase_eq_filter hnd y
            have h4 : (rm.filter fun j => !(j == y)) = rm.filter fun j => j != y := by apply List.filter_congr; intro a _; rfl
            rw [h4, ← h3, h2, hl]; omega
          refine Wany_pure hK ho hg hc hq m (rm.filter fun j => !(j == y)) (put oy.dst dd e) h1 d hly (List.Pairwise.filter _ hnd) (filter_ne.2 ⟨hi, fun e => hyi e.symm⟩) (fun z hz => hx z (filter_ne.1 hz).1) (fun h3 => ?_) ?_
          · rw [evOp_set (e := get e) (fun t ht => ?_)]
            · exact hev h3
            · rw [get_put]
              cases hd : oy.dst with
              | none => rfl
              | some a =>
                simp only [setL]
                rw [if_neg]
                rintro rfl
                exact s2 a hd (by simp [usesI, ht])
          · have hfc : ((rm.filter fun j => !(j == y)).filter fun j => !(j == i)) = ((rm.filter fun j => !(j == i)).filter fun j => !(j == y)) := by
              rw [List.filter_filter, List.filter_filter]
              apply List.filter_congr
              intro a _
              exact Bool.and_comm _ _
            rw [hfc]
            exact Wany_congr hK m _ _ _ h1 (put_swap (fun t ht => by
              intro h9
              exact (s1 t h9).2 ht) _ _) h2
theorem o_pure {n i : Nat} {rm rm' : List Nat} {o : AIns} (hK : RespE K) (ho : ops[i]? = some o) (hb : pureB ops bef rm i = true) (hrm : (rm.filter fun j => !(j == i)) = rm') (hl : (rm.length == n + 1 && decide rm.Nodup) = true) (hw : Wops P [o] e h fun e' h' => Wany P ops bef n rm' e' h' K) : Wany P ops bef (n + 1) rm e h K := by
  unfold pureB at hb
  rw [ho] at hb
  simp only [Bool.and_eq_true, List.contains_eq_mem, decide_eq_true_eq, Option.isNone_iff_eq_none, beq_iff_eq, Bool.not_eq_true'] at hb
  obtain ⟨⟨h1, h2⟩, ⟨⟨h3, h4⟩, h5⟩, h6⟩ := hb
  simp only [Bool.and_eq_true, beq_iff_eq, decide_eq_true_eq] at hl
  have hw' : Wins P o e h fun e' h' => Wany P ops bef n rm' e' h' K := hw
  unfold Wins at hw'
  rw [h3] at hw'
  have hw2 : runIns P o e h fun e' h' => Wany P ops bef n rm' e' h' K := hw'
  unfold runIns at hw2
  have hnm : makes o.op = false := by cases hop : o.op <;> rw [hop] at h4 <;> first | rfl | (simp [cls] at h4; done)
  split at hw2
  · rename_i f args hop; rw [hop] at h4; simp [cls] at h4
  · rw [if_neg (by rw [hnm]; simp)] at hw2
    split at hw2
    · rename_i d h' hev
      obtain ⟨rfl, hall⟩ := cls0 h4 hev
      refine Wany_pure hK ho h3 h4 h5 n rm e h' d hl.1 hl.2 h1 (fun y hy => ?_) (fun h2 => hall h2 0) (by rw [hrm]; exact hw2)
      have h7 := List.all_eq_true.1 h6 y hy
      rw [Bool.or_eq_true, Bool.or_eq_true] at h7
      rcases h7 with (h7 | h7) | h7
      · exact .inl (by simpa using h7)
      · exact .inr (.inl (by simpa using h7))
      · refine .inr (.inr ?_)
        split at h7
        · rename_i oy hoy; exact ⟨oy, hoy, h7⟩
        · cases h7
    · obtain ⟨⟨g, x, sz, c, hop, _⟩, _⟩ := hw2
      rw [hop] at h5
      simp [isEqN] at h5
theorem respQ {keep : List Nat} : RespE fun e h => Q .normal ⟨norm keep e, h⟩ := fun e e' h he hq => by
  have : norm keep e' = norm keep e := by
    rw [norm_get, norm_get]
    have : get e' = get e := funext fun t => (he t).symm
    rw [this]
  show Q .normal ⟨norm keep e', h⟩
  rw [this]; exact hq
theorem s_oreg {n : Nat} {rm keep : List Nat} (hn : ops.length = n) (hr : List.range n = rm) (hw : ∀ K : Env → Heap → Prop, (∀ e' h', Q .normal ⟨norm keep e', h'⟩ → K e' h') → RespE K → Wany P ops bef n rm e h K) : W P (.oreg ops bef keep) Q ⟨e, h⟩ := by
  show Wany P ops bef ops.length (List.range ops.length) e h _
  rw [hn, hr]
  exact hw _ (fun _ _ h => h) respQ
theorem s_dregA {n : Nat} {rm keep : List Nat} (hn : ops.length = n) (hr : List.range n = rm) (hw : ∀ K : Env → Heap → Prop, (∀ e' h', Q .normal ⟨norm keep e', h'⟩ → K e' h') → RespE K → Wany P ops bef n rm e h K) : W P (.dreg ops bef keep) Q ⟨e, h⟩ := by
  refine Or.inr ?_
  show Wany P ops bef ops.length (List.range ops.length) e h _
  rw [hn, hr]
  exact hw _ (fun _ _ h => h) respQ
end
end Go.AM
