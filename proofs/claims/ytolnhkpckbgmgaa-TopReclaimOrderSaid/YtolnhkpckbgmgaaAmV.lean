/- Checks of an operation's kind: each leaves its goal as it is. Generic over the program. -/
import Derived.Test.YtolnhkpckbgmgaaAmU
set_option linter.unusedSimpArgs false
set_option linter.unusedVariables false
namespace Go.AM
section
variable {P : Program} {e : Env} {h : Heap} {r : List AIns} {K : Env → Heap → Prop} {dst : Option Nat}
theorem k_mv {x : O} (hw : Wops P (⟨dst, .mv x, none⟩ :: r) e h K) : Wops P (⟨dst, .mv x, none⟩ :: r) e h K := hw
theorem k_pick {a b c : O} (hw : Wops P (⟨dst, .pick a b c, none⟩ :: r) e h K) : Wops P (⟨dst, .pick a b c, none⟩ :: r) e h K := hw
theorem k_alloc {z : List D} (hw : Wops P (⟨dst, .alloc z, none⟩ :: r) e h K) : Wops P (⟨dst, .alloc z, none⟩ :: r) e h K := hw
theorem k_box {x : O} (hw : Wops P (⟨dst, .box x, none⟩ :: r) e h K) : Wops P (⟨dst, .box x, none⟩ :: r) e h K := hw
theorem k_build {z : List D} {p : List (Nat × Nat × O)} (hw : Wops P (⟨dst, .build z p, none⟩ :: r) e h K) : Wops P (⟨dst, .build z p, none⟩ :: r) e h K := hw
theorem k_buildS {n m : Nat} {z : List D} {p : List (Nat × Nat × O)} (hw : Wops P (⟨dst, .buildS n z m p, none⟩ :: r) e h K) : Wops P (⟨dst, .buildS n z m p, none⟩ :: r) e h K := hw
theorem k_load {n : Nat} {a : O} (hw : Wops P (⟨dst, .load false n a, none⟩ :: r) e h K) : Wops P (⟨dst, .load false n a, none⟩ :: r) e h K := hw
theorem k_loadA {n : Nat} {a : O} (hw : Wops P (⟨dst, .load true n a, none⟩ :: r) e h K) : Wops P (⟨dst, .load true n a, none⟩ :: r) e h K := hw
theorem k_store {n : Nat} {a x : O} (hw : Wops P (⟨dst, .store n a x, none⟩ :: r) e h K) : Wops P (⟨dst, .store n a x, none⟩ :: r) e h K := hw
theorem k_nilck {x : O} (hw : Wops P (⟨dst, .nilck x, none⟩ :: r) e h K) : Wops P (⟨dst, .nilck x, none⟩ :: r) e h K := hw
theorem k_eqB {g : Bool} {x y : O} (hw : Wops P (⟨dst, .eqB g x y, none⟩ :: r) e h K) : Wops P (⟨dst, .eqB g x y, none⟩ :: r) e h K := hw
theorem k_eqA {g : Bool} {l : List Nat} {x y : O} (hw : Wops P (⟨dst, .eqA g l x y, none⟩ :: r) e h K) : Wops P (⟨dst, .eqA g l x y, none⟩ :: r) e h K := hw
theorem k_eqN {g : Bool} {x : O} (hw : Wops P (⟨dst, .eqN g x, none⟩ :: r) e h K) : Wops P (⟨dst, .eqN g x, none⟩ :: r) e h K := hw
theorem k_not {x : O} (hw : Wops P (⟨dst, .un .not x, none⟩ :: r) e h K) : Wops P (⟨dst, .un .not x, none⟩ :: r) e h K := hw
theorem k_neg {x : O} (hw : Wops P (⟨dst, .un .neg x, none⟩ :: r) e h K) : Wops P (⟨dst, .un .neg x, none⟩ :: r) e h K := hw
theorem k_conv {k : IntKind} {x : O} (hw : Wops P (⟨dst, .conv k x, none⟩ :: r) e h K) : Wops P (⟨dst, .conv k x, none⟩ :: r) e h K := hw
theorem k_strB {x : O} (hw : Wops P (⟨dst, .strB x, none⟩ :: r) e h K) : Wops P (⟨dst, .strB x, none⟩ :: r) e h K := hw
theorem k_mkfn {f : Nat} {a b : List O} (hw : Wops P (⟨dst, .mkfn f a b, none⟩ :: r) e h K) : Wops P (⟨dst, .mkfn f a b, none⟩ :: r) e h K := hw
theorem k_mkslice {n m : Nat} {z : List D} {a b : O} (hw : Wops P (⟨dst, .mkslice n m z a b, none⟩ :: r) e h K) : Wops P (⟨dst, .mkslice n m z a b, none⟩ :: r) e h K := hw
theorem k_slice {n : Nat} {x : O} {a b : Option O} (hw : Wops P (⟨dst, .slice n x a b, none⟩ :: r) e h K) : Wops P (⟨dst, .slice n x a b, none⟩ :: r) e h K := hw
theorem k_slice3 {n : Nat} {x b c : O} {a : Option O} (hw : Wops P (⟨dst, .slice3 n x a b c, none⟩ :: r) e h K) : Wops P (⟨dst, .slice3 n x a b c, none⟩ :: r) e h K := hw
theorem k_sliceM {n : Nat} {x a b : O} (hw : Wops P (⟨dst, .sliceM n x a b, none⟩ :: r) e h K) : Wops P (⟨dst, .sliceM n x a b, none⟩ :: r) e h K := hw
theorem k_clear {n : Nat} {z : List D} {x : O} (hw : Wops P (⟨dst, .clear n z x, none⟩ :: r) e h K) : Wops P (⟨dst, .clear n z x, none⟩ :: r) e h K := hw
theorem k_faddr {n : Nat} {x : O} (hw : Wops P (⟨dst, .faddr n x, none⟩ :: r) e h K) : Wops P (⟨dst, .faddr n x, none⟩ :: r) e h K := hw
theorem k_field {n m : Nat} {x : O} (hw : Wops P (⟨dst, .field false n m x, none⟩ :: r) e h K) : Wops P (⟨dst, .field false n m x, none⟩ :: r) e h K := hw
theorem k_fieldA {n m : Nat} {x : O} (hw : Wops P (⟨dst, .field true n m x, none⟩ :: r) e h K) : Wops P (⟨dst, .field true n m x, none⟩ :: r) e h K := hw
theorem k_iaddr {n : Nat} {x y : O} (hw : Wops P (⟨dst, .iaddr n x y, none⟩ :: r) e h K) : Wops P (⟨dst, .iaddr n x y, none⟩ :: r) e h K := hw
theorem k_iaddrA {n m : Nat} {x y : O} (hw : Wops P (⟨dst, .iaddrA n m x y, none⟩ :: r) e h K) : Wops P (⟨dst, .iaddrA n m x y, none⟩ :: r) e h K := hw
theorem k_index {g : Bool} {n m : Nat} {x y : O} (hw : Wops P (⟨dst, .index g n m x y, none⟩ :: r) e h K) : Wops P (⟨dst, .index g n m x y, none⟩ :: r) e h K := hw
theorem k_indexS {x y : O} (hw : Wops P (⟨dst, .indexS x y, none⟩ :: r) e h K) : Wops P (⟨dst, .indexS x y, none⟩ :: r) e h K := hw
theorem k_extract {n : Nat} {x : O} (hw : Wops P (⟨dst, .extract n x, none⟩ :: r) e h K) : Wops P (⟨dst, .extract n x, none⟩ :: r) e h K := hw
theorem k_len {x : O} (hw : Wops P (⟨dst, .len x, none⟩ :: r) e h K) : Wops P (⟨dst, .len x, none⟩ :: r) e h K := hw
theorem k_lenS {x : O} (hw : Wops P (⟨dst, .lenS x, none⟩ :: r) e h K) : Wops P (⟨dst, .lenS x, none⟩ :: r) e h K := hw
theorem k_append {n m : Nat} {x y : O} (hw : Wops P (⟨dst, .append n m x y, none⟩ :: r) e h K) : Wops P (⟨dst, .append n m x y, none⟩ :: r) e h K := hw
theorem k_copy {n : Nat} {x y : O} (hw : Wops P (⟨dst, .copy n x y, none⟩ :: r) e h K) : Wops P (⟨dst, .copy n x y, none⟩ :: r) e h K := hw
theorem k_mima {g : Bool} {l : List O} (hw : Wops P (⟨dst, .mima g l, none⟩ :: r) e h K) : Wops P (⟨dst, .mima g l, none⟩ :: r) e h K := hw
theorem k_callF {n : Nat} {l : List O} (hw : Wops P (⟨dst, .call (.fnc n) l, none⟩ :: r) e h K) : Wops P (⟨dst, .call (.fnc n) l, none⟩ :: r) e h K := hw
theorem k_callT {n : Nat} {l : List O} (hw : Wops P (⟨dst, .call (.tmp n) l, none⟩ :: r) e h K) : Wops P (⟨dst, .call (.tmp n) l, none⟩ :: r) e h K := hw
theorem k_add {x y : O} (hw : Wops P (⟨dst, .bin .add x y, none⟩ :: r) e h K) : Wops P (⟨dst, .bin .add x y, none⟩ :: r) e h K := hw
theorem k_sub {x y : O} (hw : Wops P (⟨dst, .bin .sub x y, none⟩ :: r) e h K) : Wops P (⟨dst, .bin .sub x y, none⟩ :: r) e h K := hw
theorem k_mul {x y : O} (hw : Wops P (⟨dst, .bin .mul x y, none⟩ :: r) e h K) : Wops P (⟨dst, .bin .mul x y, none⟩ :: r) e h K := hw
theorem k_quo {x y : O} (hw : Wops P (⟨dst, .bin .quo x y, none⟩ :: r) e h K) : Wops P (⟨dst, .bin .quo x y, none⟩ :: r) e h K := hw
theorem k_rem {x y : O} (hw : Wops P (⟨dst, .bin .rem x y, none⟩ :: r) e h K) : Wops P (⟨dst, .bin .rem x y, none⟩ :: r) e h K := hw
theorem k_and {x y : O} (hw : Wops P (⟨dst, .bin .and x y, none⟩ :: r) e h K) : Wops P (⟨dst, .bin .and x y, none⟩ :: r) e h K := hw
theorem k_or {x y : O} (hw : Wops P (⟨dst, .bin .or x y, none⟩ :: r) e h K) : Wops P (⟨dst, .bin .or x y, none⟩ :: r) e h K := hw
theorem k_xor {x y : O} (hw : Wops P (⟨dst, .bin .xor x y, none⟩ :: r) e h K) : Wops P (⟨dst, .bin .xor x y, none⟩ :: r) e h K := hw
theorem k_andNot {x y : O} (hw : Wops P (⟨dst, .bin .andNot x y, none⟩ :: r) e h K) : Wops P (⟨dst, .bin .andNot x y, none⟩ :: r) e h K := hw
theorem k_shl {x y : O} (hw : Wops P (⟨dst, .bin .shl x y, none⟩ :: r) e h K) : Wops P (⟨dst, .bin .shl x y, none⟩ :: r) e h K := hw
theorem k_shr {x y : O} (hw : Wops P (⟨dst, .bin .shr x y, none⟩ :: r) e h K) : Wops P (⟨dst, .bin .shr x y, none⟩ :: r) e h K := hw
theorem k_eql {x y : O} (hw : Wops P (⟨dst, .bin .eql x y, none⟩ :: r) e h K) : Wops P (⟨dst, .bin .eql x y, none⟩ :: r) e h K := hw
theorem k_neq {x y : O} (hw : Wops P (⟨dst, .bin .neq x y, none⟩ :: r) e h K) : Wops P (⟨dst, .bin .neq x y, none⟩ :: r) e h K := hw
theorem k_lss {x y : O} (hw : Wops P (⟨dst, .bin .lss x y, none⟩ :: r) e h K) : Wops P (⟨dst, .bin .lss x y, none⟩ :: r) e h K := hw
theorem k_leq {x y : O} (hw : Wops P (⟨dst, .bin .leq x y, none⟩ :: r) e h K) : Wops P (⟨dst, .bin .leq x y, none⟩ :: r) e h K := hw
theorem k_gtr {x y : O} (hw : Wops P (⟨dst, .bin .gtr x y, none⟩ :: r) e h K) : Wops P (⟨dst, .bin .gtr x y, none⟩ :: r) e h K := hw
theorem k_geq {x y : O} (hw : Wops P (⟨dst, .bin .geq x y, none⟩ :: r) e h K) : Wops P (⟨dst, .bin .geq x y, none⟩ :: r) e h K := hw
theorem k_guard {op : AOp} {g : Nat} {w : Bool} (hw : Wops P (⟨dst, op, some (g, w)⟩ :: r) e h K) : Wops P (⟨dst, op, some (g, w)⟩ :: r) e h K := hw
theorem k_nil (hw : Wops P [] e h K) : Wops P [] e h K := hw
end
section
variable {P : Program} {e : Env} {h : Heap} {r : List AIns} {K : Env → Prop} {dst : Option Nat}
theorem k_dguard {op : AOp} {g : Nat} {w : Bool} (hw : WdR P (⟨dst, op, some (g, w)⟩ :: r) e h K) : WdR P (⟨dst, op, some (g, w)⟩ :: r) e h K := hw
theorem k_dnil (hw : WdR P [] e h K) : WdR P [] e h K := hw
theorem k_dcall {n : Nat} {l : List O} (hw : WdR P (⟨dst, .call (.fnc n) l, none⟩ :: r) e h K) : WdR P (⟨dst, .call (.fnc n) l, none⟩ :: r) e h K := hw
theorem k_dop {op : AOp} (hw : WdR P (⟨dst, op, none⟩ :: r) e h K) : WdR P (⟨dst, op, none⟩ :: r) e h K := hw
end
section
variable {P : Program} {Q : X → St → Prop} {st : St}
theorem k_reg {ops : List AIns} {l : List Nat} (hw : W P (.reg ops l) Q st) : W P (.reg ops l) Q st := hw
theorem k_dreg {ops : List AIns} {b : List (List Nat)} {l : List Nat} (hw : W P (.dreg ops b l) Q st) : W P (.dreg ops b l) Q st := hw
theorem k_cond {c : O} {ka kb : List Nat} {a b : ACode} (hw : W P (.cond c ka a kb b) Q st) : W P (.cond c ka a kb b) Q st := hw
theorem k_br {p A B : Prop} (hw : Br p A B) : Br p A B := hw
theorem q_eqI {a b : Int} (h : a = b) : a = b := h
theorem q_eqN {a b : Nat} (h : a = b) : a = b := h
theorem q_eqL {a b : List D} (h : a = b) : a = b := h
theorem q_eqO {a b : Option D} (h : a = b) : a = b := h
theorem s_store1 {P : Program} {e : Env} {h : Heap} {r : List AIns} {K : Env → Heap → Prop} {n : Nat} {a x : O} {c new c' : List D} {k off : Nat} {d : D} (h1 : evO (get e) a = some (.pt k off)) (h2 : evO (get e) x = some d) (h3 : cellsD d = some new) (hk : h k = some c) (hl : new.length = n ∧ off + n ≤ c.length) {h' : Heap} (hh : upd h k c' = h') (hs : splice c off new = c')
    (hw : Wops P r e h' K) : Wops P (⟨none, .store n a x, none⟩ :: r) e h K := s_store0 h1 h2 h3 hk hl hs hh hw
theorem s_dregS {P : Program} {Q : X → St → Prop} {e : Env} {h : Heap} {ops pre : List AIns} {n : Nat} {a x : O} {bef : List (List Nat)} {keep : List Nat} (hs : pre ++ [⟨none, .store n a x, none⟩] = ops) (hbl : bef.length = pre.length + 1) (hro : pre.all readsOnly = true)
    (hw : ∀ K : Env → Heap → Prop, (∀ e1 h1 e2, norm keep e1 = e2 → Q .normal ⟨e2, h1⟩ → K e1 h1) → WdR P pre e h fun e' => Wops P [⟨none, .store n a x, none⟩] e' h K) : W P (.dreg ops bef keep) Q ⟨e, h⟩ := by
  subst hs
  exact W_dregS hbl hro fun K hK => hw K fun e1 h1 e2 h3 h4 => hK e1 h1 (by rw [h3]; exact h4)
theorem d_nilS {P : Program} {e : Env} {h : Heap} {l : List AIns} {K : Env → Heap → Prop} (hw : Wops P l e h K) : WdR P [] e h (fun e' => Wops P l e' h K) := hw
theorem k_con {f : Nat} {ds : List D} {h : Heap} {Q : D → Heap → Prop} (hw : Con P f ds h Q) : Con P f ds h Q := hw
end
end Go.AM
