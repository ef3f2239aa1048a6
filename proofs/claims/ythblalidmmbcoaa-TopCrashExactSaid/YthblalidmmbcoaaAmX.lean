/- Bits. Generic over the program. -/
import Derived.Test.YthblalidmmbcoaaAmW
set_option linter.unusedSimpArgs false
set_option linter.unusedVariables false
namespace Go.AM

theorem bv_nat {a : Int} {w : Nat} (ha : 0 ≤ a ∧ a < 2 ^ w) : (BitVec.ofInt w a).toNat = a.toNat := by
  obtain ⟨n, rfl⟩ := Int.eq_ofNat_of_zero_le ha.1
  have : n < 2 ^ w := by exact_mod_cast ha.2
  rw [BitVec.ofInt_natCast, BitVec.toNat_ofNat, Int.toNat_natCast, Nat.mod_eq_of_lt this]
theorem or64 {a b : Int} (ha : 0 ≤ a ∧ a ≤ 9223372036854775807) (hb : 0 ≤ b ∧ b ≤ 9223372036854775807) : b2i .or .i64 a b = some ((a.toNat ||| b.toNat : Nat) : Int) := by
  have h1 : a.toNat < 2 ^ 63 := by omega
  have h2 : b.toNat < 2 ^ 63 := by omega
  have h3 := Nat.or_lt_two_pow h1 h2
  have e : b2i .or .i64 a b = some (IntKind.i64.wrap ((BitVec.ofInt 64 a ||| BitVec.ofInt 64 b).toNat : Nat)) := rfl
  rw [e, BitVec.toNat_or, bv_nat ⟨ha.1, by omega⟩, bv_nat ⟨hb.1, by omega⟩, w64 (by omega)]
theorem and64 {a b : Int} (ha : 0 ≤ a ∧ a ≤ 9223372036854775807) (hb : 0 ≤ b ∧ b ≤ 9223372036854775807) : b2i .and .i64 a b = some ((a.toNat &&& b.toNat : Nat) : Int) := by
  have h1 : a.toNat < 2 ^ 63 := by omega
  have h3 : a.toNat &&& b.toNat < 2 ^ 63 := Nat.and_lt_two_pow _ (by omega : b.toNat < 2 ^ 63)
  have e : b2i .and .i64 a b = some (IntKind.i64.wrap ((BitVec.ofInt 64 a &&& BitVec.ofInt 64 b).toNat : Nat)) := rfl
  rw [e, BitVec.toNat_and, bv_nat ⟨ha.1, by omega⟩, bv_nat ⟨hb.1, by omega⟩, w64 (by omega)]
theorem xor8 {a b : Int} (ha : 0 ≤ a ∧ a ≤ 255) (hb : 0 ≤ b ∧ b ≤ 255) : b2i .xor .u8 a b = some ((a.toNat ^^^ b.toNat : Nat) : Int) := by
  have h1 : a.toNat < 2 ^ 8 := by omega
  have h2 : b.toNat < 2 ^ 8 := by omega
  have h3 := Nat.xor_lt_two_pow h1 h2
  have e : b2i .xor .u8 a b = some (IntKind.u8.wrap ((BitVec.ofInt 8 a ^^^ BitVec.ofInt 8 b).toNat : Nat)) := rfl
  rw [e, BitVec.toNat_xor, bv_nat ⟨ha.1, by omega⟩, bv_nat ⟨hb.1, by omega⟩, wu8 (by omega)]
theorem or_add {m i : Nat} (h : m < 2 ^ i) : m ||| 2 ^ i = m + 2 ^ i := by
  rw [Nat.or_comm, Nat.add_comm]
  have := Nat.two_pow_add_eq_or_of_lt h 1
  simpa using this.symm
theorem and_one (n : Nat) : n &&& 1 = n % 2 := Nat.and_one_is_mod n
theorem pow_le16 {i : Nat} (h : i ≤ 16) : (2 : Int) ^ i ≤ 65536 ∧ 1 ≤ (2 : Int) ^ i := by
  rcases i with _|_|_|_|_|_|_|_|_|_|_|_|_|_|_|_|_|i <;> first | decide | omega
theorem fill_step {α : Type} {f : α → D} {A : List α} {z b : α} {i N : Nat} (hA : A.length = i) (hi : i < N) :
    List.take i ((A ++ List.replicate (N - i) z).map f) ++ [f b] ++ List.drop (i + 1) ((A ++ List.replicate (N - i) z).map f) = ((A ++ [b]) ++ List.replicate (N - (i + 1)) z).map f := by
  subst hA
  obtain ⟨m, rfl⟩ : ∃ m, N = A.length + (m + 1) := ⟨N - A.length - 1, by omega⟩
  have h1 : A.length + (m + 1) - A.length = m + 1 := by omega
  have h2 : A.length + (m + 1) - (A.length + 1) = m := by omega
  rw [h1, h2, List.map_append, List.replicate_succ, List.map_cons]
  rw [List.take_append_of_le_length (by simp), List.take_of_length_le (by simp), List.drop_append, List.drop_of_length_le (by simp)]
  simp
theorem fill_end {α : Type} {f : α → D} {A : List α} {z : α} {N : Nat} : (A ++ List.replicate (N - N) z).map f = A.map f := by simp
theorem SlOwn.pos {h : Heap} {d : D} {sz n : Nat} {cells : List D} (ho : SlOwn h d sz cells n) (hn : n ≠ 0) : ∃ k, d = .sl k sz 0 n ∧ h k = some cells := by
  obtain ⟨_, ⟨h0, _⟩ | h1⟩ := ho
  · exact absurd h0 hn
  · exact h1
theorem SlOwn.fresh {h : Heap} {d : D} {sz n k : Nat} {cells : List D} (ho : SlOwn h d sz cells n) (hk : h k = none) : ∀ sz off n, d ≠ .sl k sz off n := by
  rintro sz' off n' rfl
  obtain ⟨_, ⟨_, h1 | h1⟩ | ⟨k', h1, h2⟩⟩ := ho
  · cases h1
  · cases h1
  · injection h1 with h1; subst h1; rw [hk] at h2; cases h2
theorem SlOwn.upd' {h : Heap} {d : D} {sz n k : Nat} {cells c : List D} (ho : SlOwn h d sz cells n) (hk : ∀ sz off n, d ≠ .sl k sz off n) : SlOwn (AM.upd h k c) d sz cells n := by
  obtain ⟨hc, h1 | ⟨k', rfl, hkc⟩⟩ := ho
  · exact ⟨hc, .inl h1⟩
  · exact ⟨hc, .inr ⟨k', rfl, by rw [upd_ne (by rintro rfl; exact hk _ _ _ rfl)]; exact hkc⟩⟩
theorem s_iaddrSO {P : Program} {e : Env} {h : Heap} {r : List AIns} {K : Env → Heap → Prop} {t sz : Nat} {x i : O} {d : D} {c : List D} {len : Nat} {k : IntKind} {n : Int} {j : Nat} (h1 : evO (get e) x = some d) (ho : SlOwn h d sz c len) (h2 : evO (get e) i = some (.int k n)) (h0 : 0 ≤ n ∧ n < len) (hj : n.toNat * sz = j)
    (hw : ∀ kk, h kk = some c → Wops P r ((t, .pt kk j) :: e) h K) : Wops P (⟨some t, .iaddr sz x i, none⟩ :: r) e h K := by
  obtain ⟨kk, rfl, hk⟩ := ho.pos (by omega)
  exact s_iaddrO h1 h2 h0 hk (by rw [Nat.zero_add]; exact hj) (hw kk hk)
/-- Rows of width w, joined: a cell, a row. -/
theorem fm_len {α : Type} {f : α → List D} {w : Nat} (hf : ∀ a, (f a).length = w) : ∀ l : List α, (l.flatMap f).length = l.length * w
  | [] => by simp
  | a :: r => by rw [List.flatMap_cons, List.length_append, hf, fm_len hf r, List.length_cons, Nat.add_mul]; omega
theorem fm_drop {α : Type} {f : α → List D} {w : Nat} (hf : ∀ a, (f a).length = w) : ∀ (l : List α) (i : Nat), (l.flatMap f).drop (i * w) = (l.drop i).flatMap f
  | l, 0 => by simp
  | [], i + 1 => by simp
  | a :: r, i + 1 => by
    have e : (i + 1) * w = (f a).length + i * w := by rw [hf, Nat.add_mul]; omega
    rw [List.flatMap_cons, List.drop_succ_cons, ← fm_drop hf r i, e, ← List.drop_drop, List.drop_left]
theorem fm_row {α : Type} {f : α → List D} {w : Nat} (hf : ∀ a, (f a).length = w) {l : List α} {i : Nat} (hi : i < l.length) : ((l.flatMap f).drop (i * w)).take w = f l[i] := by
  rw [fm_drop hf, List.drop_eq_getElem_cons hi, List.flatMap_cons, List.take_append_of_le_length (by rw [hf]; omega), List.take_of_length_le (by rw [hf]; omega)]
theorem fm_cell {α : Type} {f : α → List D} {w : Nat} (hf : ∀ a, (f a).length = w) {l : List α} {i j : Nat} (hi : i < l.length) (hj : j < w) : (l.flatMap f)[i * w + j]? = (f l[i])[j]? := by
  rw [← List.getElem?_drop, fm_drop hf, List.drop_eq_getElem_cons hi, List.flatMap_cons, List.getElem?_append_left (by rw [hf]; exact hj)]
theorem fm_scal {α : Type} {f : α → List D} (hf : ∀ a, (f a).all scal = true) (l : List α) : (l.flatMap f).all scal = true := by
  rw [List.all_eq_true]
  intro x hx
  obtain ⟨a, _, h⟩ := List.mem_flatMap.1 hx
  exact List.all_eq_true.1 (hf a) x h
theorem Rd_fn0 {h : Heap} {f : Nat} : Rd h (.fn f [] []) (.fn f [] []) := by
  intro s v H hv
  cases hv with
  | pure h => exact rp_below H h
  | fn f as bs ds es hl hm hr hs =>
    refine .fn f as bs [] [] hl hm ?_ ?_
    · intro i v d _ hd; simp at hd
    · intro i v d _ hd; simp at hd
theorem s_callt {P : Program} {e : Env} {h : Heap} {r : List AIns} {K : Env → Heap → Prop} {t tf : Nat} {args : List O} {g : Nat} {fst caps ds ds' : List D} (h1 : get e tf = some (.fn g fst caps)) (h2 : evOs (get e) args = some ds) (hd : fst ++ ds ++ caps = ds') (hc : Con P g ds' h fun d h' => Wops P r ((t, d) :: e) h' K) :
    Wops P (⟨some t, .call (.tmp tf) args, none⟩ :: r) e h K := s_call (g := g) (fst := fst) (caps := caps) h1 h2 (by rw [hd]; exact hc)
theorem Fin_bt {rs : List ARes} {e : Env} {h : Heap} {x : X} {p : Prop} [Decidable p] (hx : match x with | .exit _ => False | _ => True) (hd : resD rs (get e) h = some (.bool true)) (hp : p) : Fin rs (.bool (decide p)) x ⟨e, h⟩ := by
  rw [decide_eq_true hp]; exact Fin_flat hx hd rfl
theorem Fin_bf {rs : List ARes} {e : Env} {h : Heap} {x : X} {p : Prop} [Decidable p] (hx : match x with | .exit _ => False | _ => True) (hd : resD rs (get e) h = some (.bool false)) (hp : ¬p) : Fin rs (.bool (decide p)) x ⟨e, h⟩ := by
  rw [decide_eq_false hp]; exact Fin_flat hx hd rfl
/-- A loop whose rounds lower a number. -/
theorem W_down {P : Program} {Q : X → St → Prop} {e : Env} {h : Heap} {c : ACode} (n : Nat) (I : Nat → St → Prop) (h0 : I n ⟨e, h⟩) (round : ∀ m e' h', I m ⟨e', h'⟩ → W P c (X.then (fun st => ∃ m', m' < m ∧ I m' st) Q) ⟨e', h'⟩) : W P (.loop c) Q ⟨e, h⟩ := by
  have key : ∀ n m st, m < n → I m st → iter (fun Q' st' => W P c Q' st') Q n st := by
    intro n
    induction n with
    | zero => intro m st hn; omega
    | succ n ih =>
      intro m st hn hI
      refine W_mono ?_ (round m st.env st.heap hI)
      intro x st' h
      cases x with
      | normal => obtain ⟨m', h1, h2⟩ := h; exact ih m' st' (by omega) h2
      | exit id => exact h
      | ret => exact h
  exact ⟨_, key (n + 1) n _ (Nat.lt_succ_self _) h0⟩
theorem isNil_vs {sz len : Nat} {c : List D} (h : len ≠ 0) : isNilD (.vs sz c len) = some false := if_neg h
theorem isNil_sl {k sz off len : Nat} (h : len ≠ 0) : isNilD (.sl k sz off len) = some false := if_neg h
theorem eqL_i {ts : List Nat} {k : IntKind} {a b : Int} {x y : List D} {u : Bool} (h : eqL ts x y = some u) : eqL (1 :: ts) (.int k a :: x) (.int k b :: y) = some (decide (a = b) && u) := by
  simp only [eqL, eqD, if_true, h, beq_dec]
theorem eqL_b {ts : List Nat} {a b : Bool} {x y : List D} {u : Bool} (h : eqL ts x y = some u) : eqL (0 :: ts) (.bool a :: x) (.bool b :: y) = some ((a == b) && u) := by
  simp only [eqL, eqD, h]
theorem eqL_n : eqL [] [] [] = some true := rfl
theorem ne_key {h : Heap} {a b : Nat} {x : List D} (hb : h b = none) (ha : h a = some x) : a ≠ b := by rintro rfl; rw [hb] at ha; cases ha
theorem ne_key1 {h : Heap} {a b : Nat} {x : List D} {p : Prop} (hb : p ∧ h b = none) (ha : h a = some x) : a ≠ b := ne_key hb.2 ha
theorem ne_key2 {h : Heap} {a b : Nat} {x : List D} {p q : Prop} (hb : p ∧ q ∧ h b = none) (ha : h a = some x) : a ≠ b := ne_key hb.2.2 ha
theorem ne_key3 {h : Heap} {a b : Nat} {x : List D} {p q r : Prop} (hb : p ∧ q ∧ r ∧ h b = none) (ha : h a = some x) : a ≠ b := ne_key hb.2.2.2 ha
theorem tsd_ne {x : List D} {i j : Nat} {v : D} (hj : j ≠ i) (hi : i < x.length) : (List.take i x ++ [v] ++ List.drop (i + 1) x)[j]? = x[j]? := by
  rw [List.append_assoc, List.singleton_append]
  have := List.set_eq_take_append_cons_drop (l := x) (i := i) (a := v)
  rw [if_pos hi] at this
  rw [← this, List.getElem?_set_ne (by omega)]
theorem tsd_eq {x : List D} {i : Nat} {v : D} (hi : i < x.length) : (List.take i x ++ [v] ++ List.drop (i + 1) x)[i]? = some v := by
  rw [List.append_assoc, List.singleton_append]
  have := List.set_eq_take_append_cons_drop (l := x) (i := i) (a := v)
  rw [if_pos hi] at this
  rw [← this, List.getElem?_set_self hi]
theorem set_form {α : Type} {x : List α} {j : Nat} {d : α} (hj : j < x.length) : List.take j x ++ [d] ++ List.drop (j + 1) x = x.set j d := by
  rw [List.set_eq_take_append_cons_drop, if_pos hj, List.append_assoc]; rfl
theorem xor_ne {a b : Nat} (hb : b ≠ 0) : a ^^^ b ≠ a := by
  intro h
  have h1 : a ^^^ (a ^^^ b) = a ^^^ a := by rw [h]
  rw [← Nat.xor_assoc, Nat.xor_self, Nat.zero_xor] at h1
  exact hb h1
end Go.AM
