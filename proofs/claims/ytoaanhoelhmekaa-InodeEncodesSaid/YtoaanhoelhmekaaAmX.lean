/- Bits. Generic over the program. -/
import Derived.Test.YtoaanhoelhmekaaAmW
set_option linter.unusedSimpArgs false
set_option linter.unusedVariables false
namespace Go.AM

theorem bv_nat {a : Int} {w : Nat} (ha : 0 ≤ a ∧ a < 2 ^ w) : (BitVec.ofInt w a).toNat = a.toNat := by
  obtain ⟨n, rfl⟩ := Int.eq_ofNat_of_zero_le ha.1
  have : n < 2 ^ w := by exact_mod_cast ha.2
  rw [BitVec.ofInt_natCast, BitVec.toNat_ofNat, Int.toNat_natCast, Nat.mod_eq_of_lt this]
theorem or64 {a b : Int} (ha : 0 ≤ a ∧ a ≤ 9223372036854775807) (hb : 0 ≤ b ∧ b ≤ 9223372036854775807) : b2i .or .i64 a b = some ((a.toNat ||| b.toNat : Nat) : Int) := by
  have h1 : a.toNat < 2 ^ 63 := by omega
  have h2 : b.toNat < 2 ^ 63 := by omega
  have h3 := Nat.or_lt_two_pow h1 h2
  have e : b2i .or .i64 a b = some (IntKind.i64.wrap ((BitVec.ofInt 64 a ||| BitVec.ofInt 64 b).toNat : Nat)) := rfl
  rw [e, BitVec.toNat_or, bv_nat ⟨ha.1, by omega⟩, bv_nat ⟨hb.1, by omega⟩, w64 (by omega)]
theorem and64 {a b : Int} (ha : 0 ≤ a ∧ a ≤ 9223372036854775807) (hb : 0 ≤ b ∧ b ≤ 9223372036854775807) : b2i .and .i64 a b = some ((a.toNat &&& b.toNat : Nat) : Int) := by
  have h1 : a.toNat < 2 ^ 63 := by omega
  have h3 : a.toNat &&& b.toNat < 2 ^ 63 := Nat.and_lt_two_pow _ (by omega : b.toNat < 2 ^ 63)
  have e : b2i .and .i64 a b = some (IntKind.i64.wrap ((BitVec.ofInt 64 a &&& BitVec.ofInt 64 b).toNat : Nat)) := rfl
  rw [e, BitVec.toNat_and, bv_nat ⟨ha.1, by omega⟩, bv_nat ⟨hb.1, by omega⟩, w64 (by omega)]
theorem xor8 {a b : Int} (ha : 0 ≤ a ∧ a ≤ 255) (hb : 0 ≤ b ∧ b ≤ 255) : b2i .xor .u8 a b = some ((a.toNat ^^^ b.toNat : Nat) : Int) := by
  have h1 : a.toNat < 2 ^ 8 := by omega
  have h2 : b.toNat < 2 ^ 8 := by omega
  have h3 := Nat.xor_lt_two_pow h1 h2
  have e : b2i .xor .u8 a b = some (IntKind.u8.wrap ((BitVec.ofInt 8 a ^^^ BitVec.ofInt 8 b).toNat : Nat)) := rfl
  rw [e, BitVec.toNat_xor, bv_nat ⟨ha.1, by omega⟩, bv_nat ⟨hb.1, by omega⟩, wu8 (by omega)]
theorem or_add {m i : Nat} (h : m < 2 ^ i) : m ||| 2 ^ i = m + 2 ^ i := by
  rw [Nat.or_comm, Nat.add_comm]
  have := Nat.two_pow_add_eq_or_of_lt h 1
  simpa using this.symm
theorem and_one (n : Nat) : n &&& 1 = n % 2 := Nat.and_one_is_mod n
theorem pow_le16 {i : Nat} (h : i ≤ 16) : (2 : Int) ^ i ≤ 65536 ∧ 1 ≤ (2 : Int) ^ i := by
  rcases i with _|_|_|_|_|_|_|_|_|_|_|_|_|_|_|_|_|i <;> first | decide | omega
theorem fill_step {α : Type} {f : α → D} {A : List α} {z b : α} {i N : Nat} (hA : A.length = i) (hi : i < N) :
    List.take i ((A ++ List.replicate (N - i) z).map f) ++ [f b] ++ List.drop (i + 1) ((A ++ List.replicate (N - i) z).map f) = ((A ++ [b]) ++ List.replicate (N - (i + 1)) z).map f := by
  subst hA
  obtain ⟨m, rfl⟩ : ∃ m, N = A.length + (m + 1) := ⟨N - A.length - 1, by omega⟩
  have h1 : A.length + (m + 1) - A.length = m + 1 := by omega
  have h2 : A.length + (m + 1) - (A.length + 1) = m := by omega
  rw [h1, h2, List.map_append, List.replicate_succ, List.map_cons]
  rw [List.take_append_of_le_length (by simp), List.take_of_length_le (by simp), List.drop_append, List.drop_of_length_le (by simp)]
  simp
theorem fill_end {α : Type} {f : α → D} {A : List α} {z : α} {N : Nat} : (A ++ List.replicate (N - N) z).map f = A.map f := by simp
theorem SlOwn.pos {h : Heap} {d : D} {sz n : Nat} {cells : List D} (ho : SlOwn h d sz cells n) (hn : n ≠ 0) : ∃ k, d = .sl k sz 0 n ∧ h k = some cells := by
  obtain ⟨_, ⟨h0, _⟩ | h1⟩ := ho
  · exact absurd h0 hn
  · exact h1
theorem SlOwn.fresh {h : Heap} {d : D} {sz n k : Nat} {cells : List D} (ho : SlOwn h d sz cells n) (hk : h k = none) : ∀ sz off n, d ≠ .sl k sz off n := by
  rintro sz' off n' rfl
  obtain ⟨_, ⟨_, h1 | h1⟩ | ⟨k', h1, h2⟩⟩ := ho
  · cases h1
  · cases h1
  · injection h1 with h1; subst h1; rw [hk] at h2; cases h2
theorem SlOwn.upd' {h : Heap} {d : D} {sz n k : Nat} {cells c : List D} (ho : SlOwn h d sz cells n) (hk : ∀ sz off n, d ≠ .sl k sz off n) : SlOwn (AM.upd h k c) d sz cells n := by
  obtain ⟨hc, h1 | ⟨k', rfl, hkc⟩⟩ := ho
  · exact ⟨hc, .inl h1⟩
  · exact ⟨hc, .inr ⟨k', rfl, by rw [upd_ne (by rintro rfl; exact hk _ _ _ rfl)]; exact hkc⟩⟩
theorem s_iaddrSO {P : Program} {e : Env} {h : Heap} {r : List AIns} {K : Env → Heap → Prop} {t sz : Nat} {x i : O} {d : D} {c : List D} {len : Nat} {k : IntKind} {n : Int} {j : Nat} (h1 : evO (get e) x = some d) (ho : SlOwn h d sz c len) (h2 : evO (get e) i = some (.int k n)) (h0 : 0 ≤ n ∧ n < len) (hj : n.toNat * sz = j)
    (hw : ∀ kk, h kk = some c → Wops P r ((t, .pt kk j) :: e) h K) : Wops P (⟨some t, .iaddr sz x i, none⟩ :: r) e h K := by
  obtain ⟨kk, rfl, hk⟩ := ho.pos (by omega)
  exact s_iaddrO h1 h2 h0 hk (by rw [Nat.zero_add]; exact hj) (hw kk hk)
theorem set_form {α : Type} {x : List α} {j : Nat} {d : α} (hj : j < x.length) : List.take j x ++ [d] ++ List.drop (j + 1) x = x.set j d := by
  rw [List.set_eq_take_append_cons_drop, if_pos hj, List.append_assoc]; rfl
theorem xor_ne {a b : Nat} (hb : b ≠ 0) : a ^^^ b ≠ a := by
  intro h
  have h1 : a ^^^ (a ^^^ b) = a ^^^ a := by rw [h]
  rw [← Nat.xor_assoc, Nat.xor_self, Nat.zero_xor] at h1
  exact hb h1
end Go.AM
