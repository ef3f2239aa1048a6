/- One lemma for each kind of step: the symbolic executor's rules. Generic over the program. -/
import Derived.Test.YthblalidmmbcoaaAmT
set_option linter.unusedSimpArgs false
set_option linter.unusedVariables false
namespace Go.AM
open Classical

def Br (p A B : Prop) : Prop := (p → A) ∧ (¬p → B)
theorem Br_t {p A B : Prop} (hp : p) (ha : A) : Br p A B := ⟨fun _ => ha, fun hn => absurd hp hn⟩
theorem Br_f {p A B : Prop} (hp : ¬p) (hb : B) : Br p A B := ⟨fun h => absurd h hp, fun _ => hb⟩
theorem Br_s {p A B : Prop} (ha : p → A) (hb : ¬p → B) : Br p A B := ⟨ha, hb⟩

section code
variable {P : Program} {Q : X → St → Prop} {e e' : Env} {h : Heap} {st : St}
theorem norm_nil : norm [] e = [] := rfl
theorem norm_cons {t : Nat} {d : D} {r : List Nat} {l : Env} (h1 : get e t = some d) (h2 : norm r e = l) : norm (t :: r) e = (t, d) :: l := by simp only [norm, h1, h2]
theorem norm_skip {t : Nat} {r : List Nat} {l : Env} (h1 : get e t = none) (h2 : norm r e = l) : norm (t :: r) e = l := by simp only [norm, h1, h2]
theorem s_reg {ops : List AIns} {keep : List Nat} (hw : ∀ K : Env → Heap → Prop, (∀ e1 h1 e2, norm keep e1 = e2 → Q .normal ⟨e2, h1⟩ → K e1 h1) → Wops P ops e h K) : W P (.reg ops keep) Q ⟨e, h⟩ :=
  hw _ fun _ _ _ h1 h2 => by rw [h1]; exact h2
theorem s_dreg {ops : List AIns} {bef : List (List Nat)} {keep : List Nat} (hbl : bef.length = ops.length) (hro : ops.all readsOnly = true)
    (hw : ∀ K : Env → Prop, (∀ e1 e2, norm keep e1 = e2 → Q .normal ⟨e2, h⟩ → K e1) → WdR P ops e h K) : W P (.dreg ops bef keep) Q ⟨e, h⟩ :=
  W_dreg hbl hro fun K hK => hw K fun e1 e2 h1 h2 => hK e1 (by rw [h1]; exact h2)
theorem then_n {K : St → Prop} (hq : K st) : X.then K Q .normal st := hq
theorem then_e {K : St → Prop} {j : Nat} (hq : Q (.exit j) st) : X.then K Q (.exit j) st := hq
theorem then_r {K : St → Prop} (hq : Q .ret st) : X.then K Q .ret st := hq
theorem blk_n {id : Nat} (hq : Q .normal st) : X.inBlock id Q .normal st := hq
theorem blk_r {id : Nat} (hq : Q .ret st) : X.inBlock id Q .ret st := hq
theorem blk_e {id : Nat} (hq : Q .normal st) : X.inBlock id Q (.exit id) st := by simp only [X.inBlock, if_true]; exact hq
theorem blk_j {id j : Nat} (hj : j ≠ id) (hq : Q (.exit j) st) : X.inBlock id Q (.exit j) st := by simp only [X.inBlock, if_neg hj]; exact hq
theorem s_condT {c : O} {ka kb : List Nat} {a b : ACode} (hc : evO (get e) c = some (.bool true)) (hn : norm ka e = e') (hw : W P a Q ⟨e', h⟩) : W P (.cond c ka a kb b) Q ⟨e, h⟩ := W_true hc (by rw [hn]; exact hw)
theorem s_condF {c : O} {ka kb : List Nat} {a b : ACode} (hc : evO (get e) c = some (.bool false)) (hn : norm kb e = e') (hw : W P b Q ⟨e', h⟩) : W P (.cond c ka a kb b) Q ⟨e, h⟩ := W_false hc (by rw [hn]; exact hw)
theorem s_condS {c : O} {ka kb : List Nat} {a b : ACode} {t : Bool} {e1 e2 : Env} (hc : evO (get e) c = some (.bool t)) (hn1 : norm ka e = e1) (hn2 : norm kb e = e2) (hw : Br (t = true) (W P a Q ⟨e1, h⟩) (W P b Q ⟨e2, h⟩)) : W P (.cond c ka a kb b) Q ⟨e, h⟩ :=
  W_cond hc (fun ht => by rw [hn1]; exact hw.1 ht) (fun ht => by rw [hn2]; exact hw.2 (by simp [ht]))
end code

section ops
variable {P : Program} {e : Env} {h : Heap} {r : List AIns} {K : Env → Heap → Prop} {t : Nat} {dst : Option Nat}
theorem s_nil {e2 : Env} {keep : List Nat} {Q : X → St → Prop} (hK : ∀ e1 h1 e2, norm keep e1 = e2 → Q .normal ⟨e2, h1⟩ → K e1 h1) (hn : norm keep e = e2) (hq : Q .normal ⟨e2, h⟩) : Wops P [] e h K := hK _ _ _ hn hq
theorem s_gt {g : Nat} {w : Bool} {op : AOp} (hg : get e g = some (.bool w)) (hw : Wops P (⟨dst, op, none⟩ :: r) e h K) : Wops P (⟨dst, op, some (g, w)⟩ :: r) e h K := by
  have hw' : Wins P ⟨dst, op, none⟩ e h fun e' h' => Wops P r e' h' K := hw
  show Wins P _ e h fun e' h' => Wops P r e' h' K
  unfold Wins at hw' ⊢
  simp only [hg, if_true]
  exact hw'
theorem s_gf {g : Nat} {w : Bool} {op : AOp} (hg : get e g = some (.bool (!w))) (hw : Wops P r (put dst (.tup []) e) h K) : Wops P (⟨dst, op, some (g, w)⟩ :: r) e h K := by
  show Wins P _ e h fun e' h' => Wops P r e' h' K
  unfold Wins
  simp only [hg]
  rw [if_neg (by cases w <;> simp)]
  exact hw
theorem s_gx {g : Nat} {w : Bool} {op : AOp} {vs : List D} (hg : get e g = some (.tup vs)) (hw : Wops P r (put dst (.tup []) e) h K) : Wops P (⟨dst, op, some (g, w)⟩ :: r) e h K := by
  show Wins P _ e h fun e' h' => Wops P r e' h' K
  unfold Wins
  simp only [hg]
  exact hw
theorem s_gx1 {g : Nat} {w : Bool} {op : AOp} {vs : List D} (hg : get e g = some (.tup vs)) (hw : Wops P r ((t, .tup []) :: e) h K) : Wops P (⟨some t, op, some (g, w)⟩ :: r) e h K := s_gx hg hw
theorem s_gxn {g : Nat} {w : Bool} {op : AOp} {vs : List D} (hg : get e g = some (.tup vs)) (hw : Wops P r e h K) : Wops P (⟨none, op, some (g, w)⟩ :: r) e h K := s_gx hg hw
theorem s_gs {g : Nat} {w b : Bool} {op : AOp} (hg : get e g = some (.bool b)) (hw : Br (b = w) (Wops P (⟨dst, op, none⟩ :: r) e h K) (Wops P r (put dst (.tup []) e) h K)) : Wops P (⟨dst, op, some (g, w)⟩ :: r) e h K := by
  by_cases hb : b = w
  · subst hb; exact s_gt hg (hw.1 rfl)
  · obtain rfl : b = !w := by cases b <;> cases w <;> simp at hb ⊢
    exact s_gf hg (hw.2 hb)
theorem s_op {op : AOp} {d : D} {h' : Heap} (hc : ∀ f a, op ≠ .call f a) (hm : makes op = false) (he : evOp (get e) h 0 op = some (d, h')) (hw : Wops P r (put dst d e) h' K) : Wops P (⟨dst, op, none⟩ :: r) e h K := by
  show Wins P _ e h fun e' h' => Wops P r e' h' K
  unfold Wins
  simp only
  unfold runIns
  split
  · rename_i f args hop; exact absurd hop (hc _ _)
  · rename_i hnc
    simp only at hm ⊢
    rw [hm]
    simp only [Bool.false_eq_true, if_false, he]
    exact hw
theorem s_mk {op : AOp} (hc : ∀ f a, op ≠ .call f a) (hm : makes op = true) (hw : ∀ k, h k = none → ∃ d h', evOp (get e) h k op = some (d, h') ∧ Wops P r (put dst d e) h' K) : Wops P (⟨dst, op, none⟩ :: r) e h K := by
  show Wins P _ e h fun e' h' => Wops P r e' h' K
  unfold Wins
  simp only
  unfold runIns
  split
  · rename_i f args hop; exact absurd hop (hc _ _)
  · rename_i hnc
    simp only at hm ⊢
    rw [hm]
    simp only [if_true]
    intro k hk
    obtain ⟨d, h', h1, h2⟩ := hw k hk
    rw [h1]
    exact h2
theorem s_call {f : O} {args : List O} {g : Nat} {fst caps ds : List D} (h1 : evO (get e) f = some (.fn g fst caps)) (h2 : evOs (get e) args = some ds) (hc : Con P g (fst ++ ds ++ caps) h fun d h' => Wops P r (put dst d e) h' K) : Wops P (⟨dst, .call f args, none⟩ :: r) e h K := by
  show Wins P _ e h fun e' h' => Wops P r e' h' K
  unfold Wins
  simp only
  unfold runIns
  simp only [h1, h2]
  exact hc
theorem s_call0 {args : List O} {g : Nat} {ds : List D} (h2 : evOs (get e) args = some ds) (hc : Con P g ds h fun d h' => Wops P r (put dst d e) h' K) : Wops P (⟨dst, .call (.fnc g) args, none⟩ :: r) e h K :=
  s_call (g := g) (fst := []) (caps := []) rfl h2 (by simpa using hc)

theorem s_mv {x : O} {d : D} (h1 : evO (get e) x = some d) (hw : Wops P r ((t, d) :: e) h K) : Wops P (⟨some t, .mv x, none⟩ :: r) e h K :=
  s_op (d := d) (h' := h) (by simp) rfl (by simp only [evOp, h1]) hw
theorem s_pickT {c a b : O} {d : D} (h1 : evO (get e) c = some (.bool true)) (h2 : evO (get e) a = some d) (hw : Wops P r ((t, d) :: e) h K) : Wops P (⟨some t, .pick c a b, none⟩ :: r) e h K :=
  s_op (d := d) (h' := h) (by simp) rfl (by simp only [evOp, h1, h2, if_true]) hw
theorem s_pickF {c a b : O} {d : D} (h1 : evO (get e) c = some (.bool false)) (h2 : evO (get e) b = some d) (hw : Wops P r ((t, d) :: e) h K) : Wops P (⟨some t, .pick c a b, none⟩ :: r) e h K :=
  s_op (d := d) (h' := h) (by simp) rfl (by simp only [evOp, h1, h2, Bool.false_eq_true, if_false]) hw
theorem s_pickS {c a b : O} {u : Bool} (h1 : evO (get e) c = some (.bool u)) (hw : Br (u = true) (∃ d, evO (get e) a = some d ∧ Wops P r ((t, d) :: e) h K) (∃ d, evO (get e) b = some d ∧ Wops P r ((t, d) :: e) h K)) : Wops P (⟨some t, .pick c a b, none⟩ :: r) e h K := by
  cases u with
  | true => obtain ⟨d, h2, h3⟩ := hw.1 rfl; exact s_pickT h1 h2 h3
  | false => obtain ⟨d, h2, h3⟩ := hw.2 (by simp); exact s_pickF h1 h2 h3
theorem s_alloc {zero : List D} (hw : ∀ k, h k = none → Wops P r ((t, .pt k 0) :: e) (upd h k zero) K) : Wops P (⟨some t, .alloc zero, none⟩ :: r) e h K :=
  s_mk (by simp) rfl fun k hk => ⟨_, _, rfl, hw k hk⟩
theorem s_box {x : O} {d : D} {c : List D} (h1 : evO (get e) x = some d) (h2 : cellsD d = some c) (hw : ∀ k, h k = none → Wops P r ((t, .pt k 0) :: e) (upd h k c) K) : Wops P (⟨some t, .box x, none⟩ :: r) e h K :=
  s_mk (by simp) rfl fun k hk => ⟨_, _, by simp only [evOp, h1, Option.bind_some, h2], hw k hk⟩
theorem s_build {zero : List D} {parts : List (Nat × Nat × O)} {ps : List (Nat × Nat × List D)} {c : List D} (h1 : evQ (get e) parts = some ps) (h2 : fillB zero ps = some c) (hw : Wops P r ((t, .agg c) :: e) h K) : Wops P (⟨some t, .build zero parts, none⟩ :: r) e h K :=
  s_op (d := .agg c) (h' := h) (by simp) rfl (by simp only [evOp, h1, h2]) hw
theorem s_buildS {sz len : Nat} {zero : List D} {parts : List (Nat × Nat × O)} {ps : List (Nat × Nat × List D)} {c : List D} (h1 : evQ (get e) parts = some ps) (h0 : zero.length = sz ∧ 0 < sz) (h2 : fillB (rep len zero) ps = some c) (hw : ∀ k, h k = none → Wops P r ((t, .sl k sz 0 len) :: e) (upd h k c) K) : Wops P (⟨some t, .buildS sz zero len parts, none⟩ :: r) e h K :=
  s_mk (by simp) rfl fun k hk => ⟨_, _, by simp only [evOp, h1, if_pos h0, h2], hw k hk⟩
theorem s_loadV {n : Nat} {a : O} {c : List D} {off : Nat} {d : D} (h1 : evO (get e) a = some (.vp c off)) (h2 : c[off]? = some d) (hw : Wops P r ((t, d) :: e) h K) : Wops P (⟨some t, .load false n a, none⟩ :: r) e h K :=
  s_op (d := d) (h' := h) (by simp) rfl (by simp only [evOp, h1, Option.bind_some, memAt, ldD, Bool.false_eq_true, if_false, h2]) hw
theorem s_loadP {n : Nat} {a : O} {c : List D} {k off : Nat} {d : D} (h1 : evO (get e) a = some (.pt k off)) (hk : h k = some c) (h2 : c[off]? = some d) (hw : Wops P r ((t, d) :: e) h K) : Wops P (⟨some t, .load false n a, none⟩ :: r) e h K :=
  s_op (d := d) (h' := h) (by simp) rfl (by simp only [evOp, h1, Option.bind_some, memAt, hk, ldD, Bool.false_eq_true, if_false, h2]) hw
theorem s_loadAV {n : Nat} {a : O} {c : List D} {off : Nat} {x : List D} (h1 : evO (get e) a = some (.vp c off)) (h2 : off + n ≤ c.length) (hx : (c.drop off).take n = x) (hw : Wops P r ((t, .agg x) :: e) h K) : Wops P (⟨some t, .load true n a, none⟩ :: r) e h K :=
  s_op (d := .agg x) (h' := h) (by simp) rfl (by simp only [evOp, h1, Option.bind_some, memAt, ldD, if_true, if_pos h2, hx]) hw
theorem s_loadAP {n : Nat} {a : O} {c : List D} {k off : Nat} {x : List D} (h1 : evO (get e) a = some (.pt k off)) (hk : h k = some c) (h2 : off + n ≤ c.length) (hx : (c.drop off).take n = x) (hw : Wops P r ((t, .agg x) :: e) h K) : Wops P (⟨some t, .load true n a, none⟩ :: r) e h K :=
  s_op (d := .agg x) (h' := h) (by simp) rfl (by simp only [evOp, h1, Option.bind_some, memAt, hk, ldD, if_true, if_pos h2, hx]) hw
theorem s_store {n : Nat} {a x : O} {c new c' : List D} {k off : Nat} {d : D} (h1 : evO (get e) a = some (.pt k off)) (h2 : evO (get e) x = some d) (h3 : cellsD d = some new) (hk : h k = some c) (hl : new.length = n ∧ off + n ≤ c.length) (hs : splice c off new = c') (hw : Wops P r (put dst .undef e) (upd h k c') K) : Wops P (⟨dst, .store n a x, none⟩ :: r) e h K :=
  s_op (d := .undef) (h' := upd h k c') (by simp) rfl (by simp only [evOp, h1, h2, Option.bind_some, h3, hk, if_pos hl, hs]) hw
theorem s_nilckV {x : O} {c : List D} {o : Nat} (h1 : evO (get e) x = some (.vp c o)) (hw : Wops P r (put dst (.vp c o) e) h K) : Wops P (⟨dst, .nilck x, none⟩ :: r) e h K :=
  s_op (by simp) rfl (by simp only [evOp, h1]) hw
theorem s_nilckP {x : O} {k o : Nat} (h1 : evO (get e) x = some (.pt k o)) (hw : Wops P r (put dst (.pt k o) e) h K) : Wops P (⟨dst, .nilck x, none⟩ :: r) e h K :=
  s_op (by simp) rfl (by simp only [evOp, h1]) hw
theorem s_nilckF {x : O} {f : Nat} {fs cs : List D} (h1 : evO (get e) x = some (.fn f fs cs)) (hw : Wops P r (put dst (.fn f fs cs) e) h K) : Wops P (⟨dst, .nilck x, none⟩ :: r) e h K :=
  s_op (by simp) rfl (by simp only [evOp, h1]) hw

/-- Arithmetic. -/
theorem s_add {x y : O} {k : IntKind} {a b c : Int} (h1 : evO (get e) x = some (.int k a)) (h2 : evO (get e) y = some (.int k b)) (hc : k.wrap (a + b) = c) (hw : Wops P r ((t, .int k c) :: e) h K) : Wops P (⟨some t, .bin .add x y, none⟩ :: r) e h K :=
  s_op (d := .int k c) (h' := h) (by simp) rfl (by simp only [evOp, h1, h2, binD, if_true, b2i, hc, Option.map_some]) hw
theorem s_sub {x y : O} {k : IntKind} {a b c : Int} (h1 : evO (get e) x = some (.int k a)) (h2 : evO (get e) y = some (.int k b)) (hc : k.wrap (a - b) = c) (hw : Wops P r ((t, .int k c) :: e) h K) : Wops P (⟨some t, .bin .sub x y, none⟩ :: r) e h K :=
  s_op (d := .int k c) (h' := h) (by simp) rfl (by simp only [evOp, h1, h2, binD, if_true, b2i, hc, Option.map_some]) hw
theorem s_mul {x y : O} {k : IntKind} {a b c : Int} (h1 : evO (get e) x = some (.int k a)) (h2 : evO (get e) y = some (.int k b)) (hc : k.wrap (a * b) = c) (hw : Wops P r ((t, .int k c) :: e) h K) : Wops P (⟨some t, .bin .mul x y, none⟩ :: r) e h K :=
  s_op (d := .int k c) (h' := h) (by simp) rfl (by simp only [evOp, h1, h2, binD, if_true, b2i, hc, Option.map_some]) hw
theorem s_quo {x y : O} {k : IntKind} {a b c : Int} (h1 : evO (get e) x = some (.int k a)) (h2 : evO (get e) y = some (.int k b)) (h0 : b ≠ 0) (hc : k.wrap (a.tdiv b) = c) (hw : Wops P r ((t, .int k c) :: e) h K) : Wops P (⟨some t, .bin .quo x y, none⟩ :: r) e h K :=
  s_op (d := .int k c) (h' := h) (by simp) rfl (by simp only [evOp, h1, h2, binD, if_true, b2i, if_neg h0, hc, Option.map_some]) hw
theorem s_rem {x y : O} {k : IntKind} {a b c : Int} (h1 : evO (get e) x = some (.int k a)) (h2 : evO (get e) y = some (.int k b)) (h0 : b ≠ 0) (hc : a.tmod b = c) (hw : Wops P r ((t, .int k c) :: e) h K) : Wops P (⟨some t, .bin .rem x y, none⟩ :: r) e h K :=
  s_op (d := .int k c) (h' := h) (by simp) rfl (by simp only [evOp, h1, h2, binD, if_true, b2i, if_neg h0, hc, Option.map_some]) hw
theorem s_shl {x y : O} {k k' : IntKind} {a b c : Int} (h1 : evO (get e) x = some (.int k a)) (h2 : evO (get e) y = some (.int k' b)) (h0 : ¬ b < 0) (hc : k.wrap (a * 2 ^ (min b.toNat k.bits)) = c) (hw : Wops P r ((t, .int k c) :: e) h K) : Wops P (⟨some t, .bin .shl x y, none⟩ :: r) e h K :=
  s_op (d := .int k c) (h' := h) (by simp) rfl (by simp only [evOp, h1, h2, binD, shI, if_neg h0, hc, Option.map_some]) hw
theorem s_shr {x y : O} {k k' : IntKind} {a b c : Int} (h1 : evO (get e) x = some (.int k a)) (h2 : evO (get e) y = some (.int k' b)) (h0 : ¬ b < 0) (hc : a.fdiv (2 ^ (min b.toNat k.bits)) = c) (hw : Wops P r ((t, .int k c) :: e) h K) : Wops P (⟨some t, .bin .shr x y, none⟩ :: r) e h K :=
  s_op (d := .int k c) (h' := h) (by simp) rfl (by simp only [evOp, h1, h2, binD, shI, if_neg h0, hc, Option.map_some]) hw
theorem s_bit {x y : O} {op : BinOp} {k : IntKind} {a b c : Int} (hop : op = .and ∨ op = .or ∨ op = .xor ∨ op = .andNot) (h1 : evO (get e) x = some (.int k a)) (h2 : evO (get e) y = some (.int k b)) (hc : b2i op k a b = some c) (hw : Wops P r ((t, .int k c) :: e) h K) : Wops P (⟨some t, .bin op x y, none⟩ :: r) e h K :=
  s_op (d := .int k c) (h' := h) (by simp) rfl (by rcases hop with rfl | rfl | rfl | rfl <;> simp only [evOp, h1, h2, binD, if_true, hc, Option.map_some]) hw
theorem s_cmp {x y : O} {op : BinOp} {k : IntKind} {a b : Int} {p : Prop} [Decidable p] (h1 : evO (get e) x = some (.int k a)) (h2 : evO (get e) y = some (.int k b)) (hp : cmpI op a b = some (decide p)) (hw : Br p (Wops P r ((t, .bool true) :: e) h K) (Wops P r ((t, .bool false) :: e) h K)) : Wops P (⟨some t, .bin op x y, none⟩ :: r) e h K := by
  refine s_op (d := .bool (decide p)) (h' := h) (by simp) rfl (by cases op <;> first | (simp [cmpI] at hp; done) | simp only [evOp, h1, h2, binD, if_true, hp, Option.map_some]) ?_
  by_cases hq : p
  · rw [decide_eq_true hq]; exact hw.1 hq
  · rw [decide_eq_false hq]; exact hw.2 hq
theorem c_eql {a b : Int} : cmpI .eql a b = some (decide (a = b)) := by simp only [cmpI, beq_dec]
theorem c_neq {a b : Int} : cmpI .neq a b = some (decide (a ≠ b)) := by simp only [cmpI, bne_dec]
theorem c_lss {a b : Int} : cmpI .lss a b = some (decide (a < b)) := rfl
theorem c_leq {a b : Int} : cmpI .leq a b = some (decide (a ≤ b)) := rfl
theorem c_gtr {a b : Int} : cmpI .gtr a b = some (decide (b < a)) := rfl
theorem c_geq {a b : Int} : cmpI .geq a b = some (decide (b ≤ a)) := rfl
theorem s_eqB {neg : Bool} {x y : O} {a b c : Bool} (h1 : evO (get e) x = some (.bool a)) (h2 : evO (get e) y = some (.bool b)) (hc : (if neg then !(a == b) else a == b) = c) (hw : Wops P r ((t, .bool c) :: e) h K) : Wops P (⟨some t, .eqB neg x y, none⟩ :: r) e h K :=
  s_op (d := .bool c) (h' := h) (by simp) rfl (by simp only [evOp, h1, h2, hc]) hw
theorem s_eqBt {x y : O} {a b : Bool} (h1 : evO (get e) x = some (.bool a)) (h2 : evO (get e) y = some (.bool b)) (hw : Wops P r ((t, .bool (!(a == b))) :: e) h K) : Wops P (⟨some t, .eqB true x y, none⟩ :: r) e h K := s_eqB h1 h2 rfl hw
theorem s_eqBf {x y : O} {a b : Bool} (h1 : evO (get e) x = some (.bool a)) (h2 : evO (get e) y = some (.bool b)) (hw : Wops P r ((t, .bool (a == b)) :: e) h K) : Wops P (⟨some t, .eqB false x y, none⟩ :: r) e h K := s_eqB h1 h2 rfl hw
theorem s_eqA {neg : Bool} {tags : List Nat} {x y : O} {a b : List D} {u c : Bool} (h1 : evO (get e) x = some (.agg a)) (h2 : evO (get e) y = some (.agg b)) (h3 : eqL tags a b = some u) (hc : (if neg then !u else u) = c) (hw : Wops P r ((t, .bool c) :: e) h K) : Wops P (⟨some t, .eqA neg tags x y, none⟩ :: r) e h K :=
  s_op (d := .bool c) (h' := h) (by simp) rfl (by simp only [evOp, h1, h2, h3, hc]) hw
theorem s_eqN {neg : Bool} {x : O} {d : D} {u c : Bool} (h1 : evO (get e) x = some d) (h3 : isNilD d = some u) (hc : (if neg then !u else u) = c) (hw : Wops P r ((t, .bool c) :: e) h K) : Wops P (⟨some t, .eqN neg x, none⟩ :: r) e h K :=
  s_op (d := .bool c) (h' := h) (by simp) rfl (by simp only [evOp, h1, Option.bind_some, h3, hc]) hw
theorem s_not {x : O} {b c : Bool} (h1 : evO (get e) x = some (.bool b)) (hc : (!b) = c) (hw : Wops P r ((t, .bool c) :: e) h K) : Wops P (⟨some t, .un .not x, none⟩ :: r) e h K :=
  s_op (d := .bool c) (h' := h) (by simp) rfl (by simp only [evOp, h1, hc]) hw
theorem s_neg {x : O} {k : IntKind} {a c : Int} (h1 : evO (get e) x = some (.int k a)) (hc : k.wrap (0 - a) = c) (hw : Wops P r ((t, .int k c) :: e) h K) : Wops P (⟨some t, .un .neg x, none⟩ :: r) e h K :=
  s_op (d := .int k c) (h' := h) (by simp) rfl (by simp only [evOp, h1, hc]) hw
theorem s_conv {x : O} {k k' : IntKind} {a c : Int} (h1 : evO (get e) x = some (.int k' a)) (hc : k.wrap a = c) (hw : Wops P r ((t, .int k c) :: e) h K) : Wops P (⟨some t, .conv k x, none⟩ :: r) e h K :=
  s_op (d := .int k c) (h' := h) (by simp) rfl (by simp only [evOp, h1, hc]) hw
theorem s_strB {x : O} {d r0 : D} (h1 : evO (get e) x = some d) (h2 : strD h d = some r0) (hw : Wops P r ((t, r0) :: e) h K) : Wops P (⟨some t, .strB x, none⟩ :: r) e h K :=
  s_op (d := r0) (h' := h) (by simp) rfl (by simp only [evOp, h1, h2]) hw
theorem s_strEq {x y : O} {a b : ByteArray} (h1 : evO (get e) x = some (.str a)) (h2 : evO (get e) y = some (.str b)) (hw : Wops P r ((t, .bool (a.toList == b.toList)) :: e) h K) : Wops P (⟨some t, .bin .eql x y, none⟩ :: r) e h K :=
  s_op (d := .bool (a.toList == b.toList)) (h' := h) (by simp) rfl (by simp only [evOp, h1, h2, binD]) hw
theorem s_strNe {x y : O} {a b : ByteArray} (h1 : evO (get e) x = some (.str a)) (h2 : evO (get e) y = some (.str b)) (hw : Wops P r ((t, .bool (!(a.toList == b.toList))) :: e) h K) : Wops P (⟨some t, .bin .neq x y, none⟩ :: r) e h K :=
  s_op (d := .bool (!(a.toList == b.toList))) (h' := h) (by simp) rfl (by simp only [evOp, h1, h2, binD]) hw
theorem s_mkfn {f : Nat} {fst caps : List O} {fs cs : List D} (h1 : evOs (get e) fst = some fs) (h2 : evOs (get e) caps = some cs) (hw : Wops P r ((t, .fn f fs cs) :: e) h K) : Wops P (⟨some t, .mkfn f fst caps, none⟩ :: r) e h K :=
  s_op (d := .fn f fs cs) (h' := h) (by simp) rfl (by simp only [evOp, h1, h2]) hw
theorem s_mkslice {sz bytes : Nat} {zero : List D} {len cap : O} {k1 k2 : IntKind} {n c : Int} {m : Nat} (h1 : evO (get e) len = some (.int k1 n)) (h2 : evO (get e) cap = some (.int k2 c)) (h0 : zero.length = sz ∧ 0 < sz ∧ 0 ≤ n ∧ n ≤ c ∧ c * bytes ≤ room ∧ c ≤ 9223372036854775807) (hm : n.toNat = m)
    (hw : ∀ k, h k = none → Wops P r ((t, .sl k sz 0 m) :: e) (upd h k (rep m zero)) K) : Wops P (⟨some t, .mkslice sz bytes zero len cap, none⟩ :: r) e h K :=
  s_mk (by simp) rfl fun k hk => ⟨_, _, by simp only [evOp, h1, h2, if_pos h0, hm], hw k hk⟩
theorem s_mkmap (hw : ∀ k, h k = none → Wops P r ((t, .mp k) :: e) (upd h k [.mpc []]) K) : Wops P (⟨some t, .mkmap, none⟩ :: r) e h K :=
  s_mk (by simp) rfl fun k hk => ⟨_, _, rfl, hw k hk⟩
theorem s_mapHas {x i : O} {k : Nat} {n : Int} {l : List Int} (h1 : evO (get e) x = some (.mp k)) (h2 : evO (get e) i = some (.int .i64 n)) (hk : h k = some [.mpc l]) (hr : -9223372036854775808 ≤ n ∧ n ≤ 9223372036854775807) (hw : Wops P r ((t, .bool (decide (n ∈ l))) :: e) h K) : Wops P (⟨some t, .mapHas x i, none⟩ :: r) e h K :=
  s_op (d := .bool (decide (n ∈ l))) (h' := h) (by simp) rfl (by simp only [evOp, h1, h2, hk, if_pos hr]; simp) hw
theorem s_sliceV {sz : Nat} {x : O} {lo hi : Option O} {c : List D} {n l m n' : Nat} {c' : List D} (h1 : evO (get e) x = some (.vs sz c n)) (hl : bndD (get e) 0 lo = some l) (hr : bndD (get e) n hi = some m) (h0 : l ≤ m ∧ m ≤ n) (hn : m - l = n') (hc : (c.drop (l * sz)).take (n' * sz) = c') (hw : Wops P r ((t, .vs sz c' n') :: e) h K) : Wops P (⟨some t, .slice sz x lo hi, none⟩ :: r) e h K :=
  s_op (d := .vs sz c' n') (h' := h) (by simp) rfl (by simp only [evOp, h1, Option.bind_some, lenD, hl, hr, if_pos h0, if_true, hn, hc]) hw
theorem s_sliceO {sz : Nat} {x : O} {lo hi : Option O} {k off n l m n' o' : Nat} (h1 : evO (get e) x = some (.sl k sz off n)) (hl : bndD (get e) 0 lo = some l) (hr : bndD (get e) n hi = some m) (h0 : l ≤ m ∧ m ≤ n) (hn : m - l = n') (ho : off + l * sz = o') (hw : Wops P r ((t, .sl k sz o' n') :: e) h K) : Wops P (⟨some t, .slice sz x lo hi, none⟩ :: r) e h K :=
  s_op (d := .sl k sz o' n') (h' := h) (by simp) rfl (by simp only [evOp, h1, Option.bind_some, lenD, hl, hr, if_pos h0, if_true, hn, ho]) hw
theorem s_sliceN {sz : Nat} {x : O} {lo hi : Option O} {l m : Nat} (h1 : evO (get e) x = some .nil) (hl : bndD (get e) 0 lo = some l) (hr : bndD (get e) 0 hi = some m) (h0 : l ≤ m ∧ m ≤ 0) (hw : Wops P r ((t, .nil) :: e) h K) : Wops P (⟨some t, .slice sz x lo hi, none⟩ :: r) e h K :=
  s_op (d := .nil) (h' := h) (by simp) rfl (by simp only [evOp, h1, Option.bind_some, lenD, hl, hr, if_pos h0]) hw
theorem s_sliceE {sz : Nat} {x : O} {lo hi : Option O} {l m : Nat} (h1 : evO (get e) x = some .emp) (hl : bndD (get e) 0 lo = some l) (hr : bndD (get e) 0 hi = some m) (h0 : l ≤ m ∧ m ≤ 0) (hw : Wops P r ((t, .emp) :: e) h K) : Wops P (⟨some t, .slice sz x lo hi, none⟩ :: r) e h K :=
  s_op (d := .emp) (h' := h) (by simp) rfl (by simp only [evOp, h1, Option.bind_some, lenD, hl, hr, if_pos h0]) hw
theorem s_slice3 {sz : Nat} {x hi mx : O} {lo : Option O} {k off n l m q : Nat} (h1 : evO (get e) x = some (.sl k sz off n)) (hl : bndD (get e) 0 lo = some l) (hr : bndD (get e) 0 (some hi) = some m) (hq : bndD (get e) 0 (some mx) = some q) (h0 : l ≤ m ∧ m ≤ q ∧ q ≤ n) (hw : Wops P r ((t, .undef) :: e) h K) : Wops P (⟨some t, .slice3 sz x lo hi mx, none⟩ :: r) e h K :=
  s_op (d := .undef) (h' := h) (by simp) rfl (by simp only [evOp, h1, hl, hr, hq]; rw [if_pos ⟨trivial, h0⟩]) hw
theorem s_sliceM {sz : Nat} {x lo hi : O} {c : List D} {k off n l m n' o' : Nat} (h1 : evO (get e) x = some (.sl k sz off n)) (hk : h k = some c) (hl : bndD (get e) 0 (some lo) = some l) (hr : bndD (get e) 0 (some hi) = some m) (h0 : 0 < sz ∧ l ≤ m ∧ off + m * sz ≤ c.length) (hn : m - l = n') (ho : off + l * sz = o') (hw : Wops P r ((t, .sl k sz o' n') :: e) h K) : Wops P (⟨some t, .sliceM sz x lo hi, none⟩ :: r) e h K :=
  s_op (d := .sl k sz o' n') (h' := h) (by simp) rfl (by subst hn ho; simp only [evOp, h1, hk, hl, hr]; rw [if_pos ⟨trivial, h0⟩]) hw
theorem s_clear {sz : Nat} {z : List D} {x : O} {c c' : List D} {k off n : Nat} (h1 : evO (get e) x = some (.sl k sz off n)) (hk : h k = some c) (h0 : off + n * sz ≤ c.length) (hs : splice c off (rep n z) = c') {h' : Heap} (hh : upd h k c' = h') (hw : Wops P r e h' K) : Wops P (⟨none, .clear sz z x, none⟩ :: r) e h K :=
  s_op (d := .undef) (h' := h') (by simp) rfl (by subst hs hh; simp only [evOp, h1, hk]; rw [if_pos ⟨trivial, h0⟩]) hw
theorem b_none {n : Nat} : bndD (get e) n none = some n := rfl
theorem b_some {n : Nat} {x : O} {k : IntKind} {a : Int} {m : Nat} (h1 : evO (get e) x = some (.int k a)) (h0 : 0 ≤ a) (hm : a.toNat = m) : bndD (get e) n (some x) = some m := by simp only [bndD, h1, if_pos h0, hm]
theorem s_faddrV {off : Nat} {x : O} {c : List D} {o o' : Nat} (h1 : evO (get e) x = some (.vp c o)) (ho : o + off = o') (hw : Wops P r ((t, .vp c o') :: e) h K) : Wops P (⟨some t, .faddr off x, none⟩ :: r) e h K :=
  s_op (d := .vp c o') (h' := h) (by simp) rfl (by simp only [evOp, h1, ho]) hw
theorem s_faddrP {off : Nat} {x : O} {k o o' : Nat} (h1 : evO (get e) x = some (.pt k o)) (ho : o + off = o') (hw : Wops P r ((t, .pt k o') :: e) h K) : Wops P (⟨some t, .faddr off x, none⟩ :: r) e h K :=
  s_op (d := .pt k o') (h' := h) (by simp) rfl (by simp only [evOp, h1, ho]) hw
theorem s_field {n off : Nat} {x : O} {cs : List D} {d : D} (h1 : evO (get e) x = some (.agg cs)) (h2 : cs[off]? = some d) (hw : Wops P r ((t, d) :: e) h K) : Wops P (⟨some t, .field false n off x, none⟩ :: r) e h K :=
  s_op (d := d) (h' := h) (by simp) rfl (by simp only [evOp, h1, ldD, Bool.false_eq_true, if_false, h2]) hw
theorem s_fieldA {n off : Nat} {x : O} {cs c' : List D} (h1 : evO (get e) x = some (.agg cs)) (h2 : off + n ≤ cs.length) (hx : (cs.drop off).take n = c') (hw : Wops P r ((t, .agg c') :: e) h K) : Wops P (⟨some t, .field true n off x, none⟩ :: r) e h K :=
  s_op (d := .agg c') (h' := h) (by simp) rfl (by simp only [evOp, h1, ldD, if_true, if_pos h2, hx]) hw
theorem s_iaddrV {sz : Nat} {x i : O} {c : List D} {len : Nat} {k : IntKind} {n : Int} {j : Nat} (h1 : evO (get e) x = some (.vs sz c len)) (h2 : evO (get e) i = some (.int k n)) (h0 : 0 ≤ n ∧ n < len) (hj : n.toNat * sz = j) (hw : Wops P r ((t, .vp c j) :: e) h K) : Wops P (⟨some t, .iaddr sz x i, none⟩ :: r) e h K :=
  s_op (d := .vp c j) (h' := h) (by simp) rfl (by simp only [evOp, h1, h2, true_and, if_pos h0, hj]) hw
theorem s_iaddrO {sz : Nat} {x i : O} {kk off len : Nat} {c : List D} {k : IntKind} {n : Int} {j : Nat} (h1 : evO (get e) x = some (.sl kk sz off len)) (h2 : evO (get e) i = some (.int k n)) (h0 : 0 ≤ n ∧ n < len) (hk : h kk = some c) (hj : off + n.toNat * sz = j) (hw : Wops P r ((t, .pt kk j) :: e) h K) : Wops P (⟨some t, .iaddr sz x i, none⟩ :: r) e h K :=
  s_op (d := .pt kk j) (h' := h) (by simp) rfl (by simp only [evOp, h1, h2, true_and, if_pos h0, hk, hj]) hw
theorem s_iaddrAV {len sz : Nat} {x i : O} {c : List D} {o j : Nat} {k : IntKind} {n : Int} (h1 : evO (get e) x = some (.vp c o)) (h2 : evO (get e) i = some (.int k n)) (h0 : 0 ≤ n ∧ n < len) (hj : o + n.toNat * sz = j) (hw : Wops P r ((t, .vp c j) :: e) h K) : Wops P (⟨some t, .iaddrA len sz x i, none⟩ :: r) e h K :=
  s_op (d := .vp c j) (h' := h) (by simp) rfl (by simp only [evOp, h1, h2, if_pos h0, hj]) hw
theorem s_iaddrAP {len sz : Nat} {x i : O} {kk o j : Nat} {k : IntKind} {n : Int} (h1 : evO (get e) x = some (.pt kk o)) (h2 : evO (get e) i = some (.int k n)) (h0 : 0 ≤ n ∧ n < len) (hj : o + n.toNat * sz = j) (hw : Wops P r ((t, .pt kk j) :: e) h K) : Wops P (⟨some t, .iaddrA len sz x i, none⟩ :: r) e h K :=
  s_op (d := .pt kk j) (h' := h) (by simp) rfl (by simp only [evOp, h1, h2, if_pos h0, hj]) hw
theorem s_index {len sz : Nat} {x i : O} {cs : List D} {k : IntKind} {n : Int} {d : D} (h1 : evO (get e) x = some (.agg cs)) (h2 : evO (get e) i = some (.int k n)) (h0 : 0 ≤ n ∧ n < len) (h3 : cs[n.toNat * sz]? = some d) (hw : Wops P r ((t, d) :: e) h K) : Wops P (⟨some t, .index false len sz x i, none⟩ :: r) e h K :=
  s_op (d := d) (h' := h) (by simp) rfl (by simp only [evOp, h1, h2, if_pos h0, ldD, Bool.false_eq_true, if_false, h3]) hw
theorem s_extract {i : Nat} {x : O} {vs : List D} {d : D} (h1 : evO (get e) x = some (.tup vs)) (h2 : vs[i]? = some d) (hw : Wops P r ((t, d) :: e) h K) : Wops P (⟨some t, .extract i x, none⟩ :: r) e h K :=
  s_op (d := d) (h' := h) (by simp) rfl (by simp only [evOp, h1, h2]) hw
theorem s_len {x : O} {d : D} {n : Nat} (h1 : evO (get e) x = some d) (h2 : lenD d = some n) (hw : Wops P r ((t, .int .i64 n) :: e) h K) : Wops P (⟨some t, .len x, none⟩ :: r) e h K :=
  s_op (d := .int .i64 n) (h' := h) (by simp) rfl (by simp only [evOp, h1, Option.bind_some, lenV_of h2]) hw
theorem s_lenN {x : O} {sz n : Nat} {c : List D} (h1 : evO (get e) x = some (.vn sz c n)) (hw : Wops P r ((t, .int .i64 n) :: e) h K) : Wops P (⟨some t, .len x, none⟩ :: r) e h K :=
  s_op (d := .int .i64 n) (h' := h) (by simp) rfl (by simp only [evOp, h1, Option.bind_some, lenV]) hw
theorem s_append {sz bytes : Nat} {x y : O} {a b : D} (h1 : evO (get e) x = some a) (h2 : evO (get e) y = some b) (hw : ∀ k, h k = none → ∃ d h', appD h k sz bytes a b = some (d, h') ∧ Wops P r ((t, d) :: e) h' K) : Wops P (⟨some t, .append sz bytes x y, none⟩ :: r) e h K :=
  s_mk (by simp) rfl fun k hk => let ⟨d, h', h3, h4⟩ := hw k hk; ⟨d, h', by simp only [evOp, h1, h2, h3], h4⟩
theorem s_copy {sz : Nat} {x y : O} {a b d : D} {h' : Heap} (h1 : evO (get e) x = some a) (h2 : evO (get e) y = some b) (h3 : copyD h sz a b = some (d, h')) (hw : Wops P r (put dst d e) h' K) : Wops P (⟨dst, .copy sz x y, none⟩ :: r) e h K :=
  s_op (by simp) rfl (by simp only [evOp, h1, h2, h3]) hw
theorem s_mima {mx : Bool} {xs : List O} {ds : List D} {d : D} (h1 : evOs (get e) xs = some ds) (h2 : mimaD mx ds = some d) (hw : Wops P r ((t, d) :: e) h K) : Wops P (⟨some t, .mima mx xs, none⟩ :: r) e h K :=
  s_op (d := d) (h' := h) (by simp) rfl (by simp only [evOp, h1, Option.bind_some, h2]) hw
theorem s_eql {x y : O} {k : IntKind} {a b : Int} (h1 : evO (get e) x = some (.int k a)) (h2 : evO (get e) y = some (.int k b)) (hw : Br (a = b) (Wops P r ((t, .bool true) :: e) h K) (Wops P r ((t, .bool false) :: e) h K)) : Wops P (⟨some t, .bin .eql x y, none⟩ :: r) e h K := s_cmp h1 h2 c_eql hw
theorem s_neq {x y : O} {k : IntKind} {a b : Int} (h1 : evO (get e) x = some (.int k a)) (h2 : evO (get e) y = some (.int k b)) (hw : Br (a = b) (Wops P r ((t, .bool false) :: e) h K) (Wops P r ((t, .bool true) :: e) h K)) : Wops P (⟨some t, .bin .neq x y, none⟩ :: r) e h K := s_cmp h1 h2 c_neq ⟨fun h => hw.2 h, fun h => hw.1 (Decidable.not_not.1 h)⟩
theorem s_lss {x y : O} {k : IntKind} {a b : Int} (h1 : evO (get e) x = some (.int k a)) (h2 : evO (get e) y = some (.int k b)) (hw : Br (a < b) (Wops P r ((t, .bool true) :: e) h K) (Wops P r ((t, .bool false) :: e) h K)) : Wops P (⟨some t, .bin .lss x y, none⟩ :: r) e h K := s_cmp h1 h2 c_lss hw
theorem s_leq {x y : O} {k : IntKind} {a b : Int} (h1 : evO (get e) x = some (.int k a)) (h2 : evO (get e) y = some (.int k b)) (hw : Br (a ≤ b) (Wops P r ((t, .bool true) :: e) h K) (Wops P r ((t, .bool false) :: e) h K)) : Wops P (⟨some t, .bin .leq x y, none⟩ :: r) e h K := s_cmp h1 h2 c_leq hw
theorem s_gtr {x y : O} {k : IntKind} {a b : Int} (h1 : evO (get e) x = some (.int k a)) (h2 : evO (get e) y = some (.int k b)) (hw : Br (b < a) (Wops P r ((t, .bool true) :: e) h K) (Wops P r ((t, .bool false) :: e) h K)) : Wops P (⟨some t, .bin .gtr x y, none⟩ :: r) e h K := s_cmp h1 h2 c_gtr hw
theorem s_geq {x y : O} {k : IntKind} {a b : Int} (h1 : evO (get e) x = some (.int k a)) (h2 : evO (get e) y = some (.int k b)) (hw : Br (b ≤ a) (Wops P r ((t, .bool true) :: e) h K) (Wops P r ((t, .bool false) :: e) h K)) : Wops P (⟨some t, .bin .geq x y, none⟩ :: r) e h K := s_cmp h1 h2 c_geq hw
theorem s_call1 {args : List O} {g : Nat} {ds : List D} (h2 : evOs (get e) args = some ds) (hc : Con P g ds h fun d h' => Wops P r ((t, d) :: e) h' K) : Wops P (⟨some t, .call (.fnc g) args, none⟩ :: r) e h K := s_call0 h2 hc
theorem s_calln {args : List O} {g : Nat} {ds : List D} (h2 : evOs (get e) args = some ds) (hc : Con P g ds h fun _ h' => Wops P r e h' K) : Wops P (⟨none, .call (.fnc g) args, none⟩ :: r) e h K := s_call0 h2 hc
theorem s_gf1 {g : Nat} {w : Bool} {op : AOp} (hg : get e g = some (.bool (!w))) (hw : Wops P r ((t, .tup []) :: e) h K) : Wops P (⟨some t, op, some (g, w)⟩ :: r) e h K := s_gf hg hw
theorem s_gfn {g : Nat} {w : Bool} {op : AOp} (hg : get e g = some (.bool (!w))) (hw : Wops P r e h K) : Wops P (⟨none, op, some (g, w)⟩ :: r) e h K := s_gf hg hw
theorem s_store0 {n : Nat} {a x : O} {c new c' : List D} {k off : Nat} {d : D} (h1 : evO (get e) a = some (.pt k off)) (h2 : evO (get e) x = some d) (h3 : cellsD d = some new) (hk : h k = some c) (hl : new.length = n ∧ off + n ≤ c.length) (hs : splice c off new = c') {h' : Heap} (hh : upd h k c' = h') (hw : Wops P r e h' K) : Wops P (⟨none, .store n a x, none⟩ :: r) e h K := s_store h1 h2 h3 hk hl hs (by rw [hh]; exact hw)
theorem s_mapPut {x i v : O} {k : Nat} {n : Int} {l : List Int} (h1 : evO (get e) x = some (.mp k)) (h2 : evO (get e) i = some (.int .i64 n)) (h3 : evO (get e) v = some (.bool true)) (hk : h k = some [.mpc l]) (hr : -9223372036854775808 ≤ n ∧ n ≤ 9223372036854775807 ∧ l.length < 9223372036854775807) {h' : Heap} (hh : upd h k [.mpc (n :: l)] = h') (hw : Wops P r e h' K) : Wops P (⟨none, .mapPut x i v, none⟩ :: r) e h K :=
  s_op (d := .undef) (h' := h') (by simp) rfl (by simp only [evOp, h1, h2, h3, hk, if_pos hr, hh]) hw
theorem s_copy0 {sz : Nat} {x y : O} {a b d : D} {h' : Heap} (h1 : evO (get e) x = some a) (h2 : evO (get e) y = some b) (h3 : copyD h sz a b = some (d, h')) (hw : Wops P r e h' K) : Wops P (⟨none, .copy sz x y, none⟩ :: r) e h K := s_copy h1 h2 h3 hw
theorem s_copy1 {sz : Nat} {x y : O} {a b d : D} {h' : Heap} (h1 : evO (get e) x = some a) (h2 : evO (get e) y = some b) (h3 : copyD h sz a b = some (d, h')) (hw : Wops P r ((t, d) :: e) h' K) : Wops P (⟨some t, .copy sz x y, none⟩ :: r) e h K := s_copy h1 h2 h3 hw
theorem copyS {s : ByteArray} {bs c c' : List D} {k off len : Nat} (hb : (s.data.toList.map fun b => D.int .u8 b.toNat) = bs) (hk : h k = some c) (hl : bs.length ≤ len ∧ off + len * 1 ≤ c.length) (hs : splice c off bs = c') : copyD h 1 (.sl k 1 off len) (.str s) = some (.int .i64 bs.length, upd h k c') := by
  have hsz : s.size = bs.length := by rw [← hb, List.length_map]; rfl
  have hm : min s.size len = bs.length := by omega
  have ht : (s.data.toList.take bs.length).map (fun b => D.int .u8 b.toNat) = bs := by rw [List.map_take, hb, List.take_length]
  simp only [copyD, lenD, lenA, srcD, hm, ht, true_and, if_true, hk]
  rw [if_pos (by omega)]
  simp only [if_pos hl.2, hs]
theorem s_copyS0 {x y : O} {s : ByteArray} {bs c c' : List D} {k off len : Nat} {h' : Heap} (h1 : evO (get e) x = some (.sl k 1 off len)) (h2 : evO (get e) y = some (.str s)) (hb : (s.data.toList.map fun b => D.int .u8 b.toNat) = bs) (hk : h k = some c) (hl : bs.length ≤ len ∧ off + len * 1 ≤ c.length) (hs : splice c off bs = c') (hh : upd h k c' = h') (hw : Wops P r e h' K) : Wops P (⟨none, .copy 1 x y, none⟩ :: r) e h K :=
  s_copy h1 h2 (copyS hb hk hl hs) (by rw [hh]; exact hw)
theorem s_copyS1 {x y : O} {s : ByteArray} {bs c c' : List D} {k off len : Nat} {h' : Heap} (h1 : evO (get e) x = some (.sl k 1 off len)) (h2 : evO (get e) y = some (.str s)) (hb : (s.data.toList.map fun b => D.int .u8 b.toNat) = bs) (hk : h k = some c) (hl : bs.length ≤ len ∧ off + len * 1 ≤ c.length) (hs : splice c off bs = c') (hh : upd h k c' = h') (hw : Wops P r ((t, .int .i64 bs.length) :: e) h' K) : Wops P (⟨some t, .copy 1 x y, none⟩ :: r) e h K :=
  s_copy h1 h2 (copyS hb hk hl hs) (by rw [hh]; exact hw)
end ops

theorem exc_v {h : Heap} {ko : Option Nat} {d : D} (hd : (match d with | .ow _ _ _ => false | _ => true) = true) (hf : flat d = true) : ExC h ko d d := by
  cases d <;> simp only [ExC] <;> first | exact ⟨rfl, hf⟩ | exact ⟨trivial, hf⟩ | (simp at hd)
theorem exc_n {h : Heap} {sz : Nat} : ExC h none .nil (.ow sz [] 0) := Or.inl ⟨rfl, rfl, rfl, .inl rfl⟩
theorem exc_e {h : Heap} {sz : Nat} : ExC h none .emp (.ow sz [] 0) := Or.inl ⟨rfl, rfl, rfl, .inr rfl⟩
theorem exc_o {h : Heap} {k sz len : Nat} {cells : List D} (hk : h k = some cells) (hl : cells.length = len * sz) (hs : cells.all scal = true) : ExC h (some k) (.sl k sz 0 len) (.ow sz cells len) := Or.inr ⟨k, [], rfl, rfl, by rw [List.append_nil]; exact hk, hl, hs⟩
theorem exc_p {h : Heap} {k sz len : Nat} {cells tl : List D} (hk : h k = some (cells ++ tl)) (hl : cells.length = len * sz) (hs : cells.all scal = true) : ExC h (some k) (.sl k sz 0 len) (.ow sz cells len) := Or.inr ⟨k, tl, rfl, rfl, hk, hl, hs⟩
theorem Fin_tup {rs : List ARes} {e : Env} {h : Heap} {ds ws : List D} {x : X} (hx : match x with | .exit _ => False | _ => True) (hd : resD rs (get e) h = some (.tup ds)) (ha : All2 (ExC h none) ds ws) (hn : nOw ws ≤ 1) : Fin rs (.tup ws) x ⟨e, h⟩ := ⟨hx, _, hd, Ex_tup none (by simp) ha hn⟩
theorem Fin_own {rs : List ARes} {e : Env} {h : Heap} {ds ws : List D} {x : X} {k : Nat} {c : List D} (hx : match x with | .exit _ => False | _ => True) (hd : resD rs (get e) h = some (.tup ds)) (hk : h k = some c) (ha : All2 (ExC h (some k)) ds ws) (hn : nOw ws ≤ 1) : Fin rs (.tup ws) x ⟨e, h⟩ := ⟨hx, _, hd, Ex_tup (some k) (fun k' h => by injection h with h; subst h; exact ⟨c, hk⟩) ha hn⟩
theorem Fin_sl {rs : List ARes} {e : Env} {h : Heap} {k sz len : Nat} {c : List D} {x : X} (hx : match x with | .exit _ => False | _ => True) (hd : resD rs (get e) h = some (.sl k sz 0 len)) (hk : h k = some c) (hl : c.length = len * sz) (hs : c.all scal = true) : Fin rs (.ow sz c len) x ⟨e, h⟩ := ⟨hx, _, hd, Ex_own hk hl hs⟩
theorem Fin_nil {rs : List ARes} {e : Env} {h : Heap} {sz : Nat} {x : X} (hx : match x with | .exit _ => False | _ => True) (hd : resD rs (get e) h = some .nil) : Fin rs (.ow sz [] 0) x ⟨e, h⟩ := ⟨hx, _, hd, Ex_nil⟩
theorem bytesD_map (xs : List Int) : bytesD (xs.map (.int .u8)) = some xs := by
  induction xs with
  | nil => rfl
  | cons a r ih => simp only [List.map_cons, bytesD, ih]
theorem strD_vs0 {h : Heap} (xs : List Int) : strD h (.vs 1 (xs.map (.int .u8)) xs.length) = some (.str (strOf xs)) := by
  cases hx : xs.length with
  | zero =>
    have : xs = [] := List.length_eq_zero_iff.1 hx
    subst this
    rfl
  | succ n =>
    have ht : (xs.map (D.int .u8)).take (n + 1) = xs.map (.int .u8) := by rw [List.take_of_length_le]; simp [hx]
    unfold strD
    simp only [lenD, srcD, Nat.mul_one, List.length_map, hx, and_self, Nat.le_refl, if_true, ht, bytesD_map]
theorem strD_vs {h : Heap} {xs : List Int} (hn : xs ≠ []) : strD h (.vs 1 (xs.map (.int .u8)) xs.length) = some (.str (strOf xs)) := strD_vs0 xs
theorem strOf_toList (xs : List Int) : (strOf xs).toList = xs.map fun n => UInt8.ofNat n.toNat := by
  have key : ∀ (xs : List Int) (b : ByteArray), (xs.foldl (fun r n => r.push (UInt8.ofNat n.toNat)) b).data.toList = b.data.toList ++ xs.map fun n => UInt8.ofNat n.toNat := by
    intro xs
    induction xs with
    | nil => intro b; simp
    | cons a r ih => intro b; simp only [List.foldl_cons, ih, List.map_cons]; simp [ByteArray.push]
  have := key xs ByteArray.empty
  unfold strOf
  rw [ByteArray.toList_eq, this]; rfl
theorem strOf_eq {xs ys : List Int} (hx : ∀ a ∈ xs, 0 ≤ a ∧ a ≤ 255) (hy : ∀ a ∈ ys, 0 ≤ a ∧ a ≤ 255) : ((strOf xs).toList == (strOf ys).toList) = decide (xs = ys) := by
  rw [strOf_toList, strOf_toList]
  have key : ∀ xs ys : List Int, (∀ a ∈ xs, 0 ≤ a ∧ a ≤ 255) → (∀ a ∈ ys, 0 ≤ a ∧ a ≤ 255) → (xs.map (fun n => UInt8.ofNat n.toNat) = ys.map fun n => UInt8.ofNat n.toNat) → xs = ys := by
    intro xs
    induction xs with
    | nil => intro ys _ _ h; cases ys <;> simp at h ⊢
    | cons a r ih =>
      intro ys hx hy h
      cases ys with
      | nil => simp at h
      | cons b q =>
        simp only [List.map_cons, List.cons.injEq] at h
        have ha := hx a (by simp)
        have hb := hy b (by simp)
        have h1 := congrArg UInt8.toNat h.1
        rw [UInt8.toNat_ofNat', UInt8.toNat_ofNat'] at h1
        have : a = b := by omega
        rw [this, ih q (fun x hx' => hx x (by simp [hx'])) (fun x hx' => hy x (by simp [hx'])) h.2]
  by_cases h : xs = ys
  · simp [h]
  · simp [h]
    exact fun hh => h (key xs ys hx hy hh)
theorem gm {α : Type} {f : α → D} {xs : List α} {i : Nat} (h : i < xs.length) : (xs.map f)[i]? = some (f xs[i]) := by simp [h]
theorem take_step {α : Type} {xs ys : List α} {i : Nat} (hx : i < xs.length) (hy : i < ys.length) (h : xs.take i = ys.take i) (he : xs[i] = ys[i]) : xs.take (i + 1) = ys.take (i + 1) := by
  rw [List.take_succ_eq_append_getElem hx, List.take_succ_eq_append_getElem hy, h, he]
theorem room_i : ((room : Nat) : Int) = 140737488355328 := by decide
theorem Br_dec {p A B : Prop} [Decidable p] (h : Br p A B) : Br (decide p = true) A B := by simpa [Br] using h
theorem Br_not {b : Bool} {A B : Prop} (h : Br (b = true) B A) : Br ((!b) = true) A B := ⟨fun hb => h.2 (by simpa using hb), fun hb => h.1 (by simpa using hb)⟩
theorem Br_eqF {b : Bool} {A B : Prop} (h : Br (b = true) B A) : Br (b = false) A B := ⟨fun hb => h.2 (by simp [hb]), fun hb => h.1 (by simpa using hb)⟩
theorem Br_and {p q A B : Prop} (h : Br p (Br q A B) B) : Br (p ∧ q) A B := ⟨fun hpq => (h.1 hpq.1).1 hpq.2, fun hn => by by_cases hp : p; exact (h.1 hp).2 fun hq => hn ⟨hp, hq⟩; exact h.2 hp⟩
theorem Br_or {p q A B : Prop} (h : Br p A (Br q A B)) : Br (p ∨ q) A B := ⟨fun hpq => by by_cases hp : p; exact h.1 hp; exact (h.2 hp).1 (hpq.resolve_left hp), fun hn => (h.2 fun hp => hn (.inl hp)).2 fun hq => hn (.inr hq)⟩
theorem Br_neg {p A B : Prop} (h : Br p B A) : Br (¬p) A B := ⟨fun hp => h.2 hp, fun hp => h.1 (Decidable.not_not.1 hp)⟩
theorem Br_band {a b : Bool} {A B : Prop} (h : Br (a = true) (Br (b = true) A B) B) : Br ((a && b) = true) A B := by rw [Bool.and_eq_true]; exact Br_and h
theorem Br_bor {a b : Bool} {A B : Prop} (h : Br (a = true) A (Br (b = true) A B)) : Br ((a || b) = true) A B := by rw [Bool.or_eq_true]; exact Br_or h
theorem Br_beq {α : Type} [BEq α] [LawfulBEq α] {a b : α} {A B : Prop} (h : Br (a = b) A B) : Br ((a == b) = true) A B := by simpa [Br] using h
theorem Br_sb {b : Bool} {A B : Prop} (ha : b = true → A) (hb : b = false → B) : Br (b = true) A B := ⟨ha, fun h => hb (by simpa using h)⟩
theorem con_valB {P : Program} {f : Nat} {ds ds' : List D} {h : Heap} {p : Prop} [Decidable p] {Q : D → Heap → Prop} (hp : PCon P f ds' (.bool (decide p))) (hr : All2 (Rd h) ds ds') (hq : Br p (Q (.bool true) h) (Q (.bool false) h)) : Con P f ds h Q :=
  con_val hp hr rfl (fun _ => rfl) (by by_cases h : p; (rw [decide_eq_true h]; exact hq.1 h); (rw [decide_eq_false h]; exact hq.2 h))
section drawn
variable {P : Program} {e : Env} {h : Heap} {r : List AIns} {K : Env → Prop} {t : Nat} {dst : Option Nat}
theorem d_nil {e2 : Env} {keep : List Nat} {Q : X → St → Prop} (hK : ∀ e1 e2, norm keep e1 = e2 → Q .normal ⟨e2, h⟩ → K e1) (hn : norm keep e = e2) (hq : Q .normal ⟨e2, h⟩) : WdR P [] e h K := hK _ _ hn hq
theorem d_back {K : Env → Heap → Prop} (hk : K e h) : Wops P [] e h K := hk
theorem d_gt {g : Nat} {w : Bool} {op : AOp} (hg : get e g = some (.bool w)) (hw : WdR P (⟨dst, op, none⟩ :: r) e h K) : WdR P (⟨dst, op, some (g, w)⟩ :: r) e h K := by
  simp only [WdR] at hw ⊢
  simp only [hg, if_true]
  exact hw
theorem d_gf {g : Nat} {w : Bool} {op : AOp} (hg : get e g = some (.bool (!w))) (hw : WdR P r (put dst (.tup []) e) h K) : WdR P (⟨dst, op, some (g, w)⟩ :: r) e h K := by
  simp only [WdR, hg]
  rw [if_neg (by cases w <;> simp)]
  exact hw
theorem d_gx {g : Nat} {w : Bool} {op : AOp} {vs : List D} (hg : get e g = some (.tup vs)) (hw : WdR P r (put dst (.tup []) e) h K) : WdR P (⟨dst, op, some (g, w)⟩ :: r) e h K := by
  simp only [WdR, hg]
  exact hw
theorem d_gs {g : Nat} {w b : Bool} {op : AOp} (hg : get e g = some (.bool b)) (hw : Br (b = w) (WdR P (⟨dst, op, none⟩ :: r) e h K) (WdR P r (put dst (.tup []) e) h K)) : WdR P (⟨dst, op, some (g, w)⟩ :: r) e h K := by
  by_cases hb : b = w
  · subst hb; exact d_gt hg (hw.1 rfl)
  · obtain rfl : b = !w := by cases b <;> cases w <;> simp at hb ⊢
    exact d_gf hg (hw.2 hb)
def isEqN : AOp → Bool
  | .eqN .. => true
  | _ => false
theorem d_step {op : AOp} (hc : cls op = 0 ∨ cls op = 1) (hw : Wops P [⟨dst, op, none⟩] e h fun e' _ => WdR P r e' h K) (hne : isEqN op = false := by rfl) : WdR P (⟨dst, op, none⟩ :: r) e h K := by
  have hw' : runIns P ⟨dst, op, none⟩ e h fun e' _ => WdR P r e' h K := hw
  simp only [WdR, WdI]
  cases op <;> first
    | exact hw'
    | (exfalso; simp [cls] at hc; done)
    | (exfalso; simp [isEqN] at hne; done)
    | (simp only [runIns, makes, Bool.false_eq_true, if_false] at hw'
       split at hw'
       · rename_i he; simp only [he]; exact hw'
       · obtain ⟨⟨g, x, sz, c, hop, _⟩, _⟩ := hw'
         cases hop)
theorem d_call {args : List O} {g : Nat} {ds ds' : List D} {r0 : D} (h2 : evOs (get e) args = some ds) (hp : PCon P g ds' r0) (hr : All2 (Rd h) ds ds') (hw : WdR P r (put dst (unow r0) e) h K) : WdR P (⟨dst, .call (.fnc g) args, none⟩ :: r) e h K := by
  simp only [WdR, WdI, evO, h2]
  exact .inl ⟨ds', r0, by simpa using hr, hp, hw⟩
end drawn
end Go.AM
