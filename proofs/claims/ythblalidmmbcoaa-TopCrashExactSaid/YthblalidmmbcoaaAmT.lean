/- Further lemmas for walking: arithmetic, heaps, loops. Generic over the program. -/
import Derived.Test.YthblalidmmbcoaaAmS
import Derived.IntWalk
set_option linter.unusedSimpArgs false
set_option linter.unusedVariables false
namespace Go.AM
open Classical

section
variable {P : Program} {Q : X → St → Prop} {e : Env} {h : Heap}
theorem W_cond_eq {c : O} {ka kb : List Nat} {a b : ACode} : W P (.cond c ka a kb b) Q ⟨e, h⟩ = (match evO (AM.get e) c with
    | some (.bool t) => (t = true → W P a Q ⟨norm ka e, h⟩) ∧ (t = false → W P b Q ⟨norm kb e, h⟩)
    | _ => False) := rfl
def WN (P : Program) (c : ACode) (Q : X → St → Prop) (n : Nat) (st : St) : Prop := iter (fun Q' st' => W P c Q' st') Q n st
theorem W_unroll {c : ACode} (n : Nat) (hw : WN P c Q n ⟨e, h⟩) : W P (.loop c) Q ⟨e, h⟩ := ⟨n, hw⟩
theorem WN_succ {c : ACode} {n : Nat} (hw : W P c (X.then (WN P c Q n) Q) ⟨e, h⟩) : WN P c Q (n + 1) ⟨e, h⟩ := hw
end

theorem upd_none {h : Heap} {k j : Nat} {c : List D} : (upd h k c j = none) = (j ≠ k ∧ h j = none) := by
  simp only [upd, eq_iff_iff]
  constructor
  · intro hh; split at hh
    · cases hh
    · exact ⟨by assumption, hh⟩
  · intro ⟨h1, h2⟩; rw [if_neg h1]; exact h2
theorem upd_self {h : Heap} {k : Nat} {c : List D} : upd h k c k = some c := by simp [upd]
theorem upd_ne {h : Heap} {k j : Nat} {c : List D} (hj : j ≠ k) : upd h k c j = h j := by simp [upd, hj]
theorem upd_upd {h : Heap} {k : Nat} {c c' : List D} : upd (upd h k c) k c' = upd h k c' := by funext j; simp only [upd]; split <;> rfl
theorem del_upd {h : Heap} {k : Nat} {c : List D} (hk : h k = none) : del (upd h k c) k = h := by
  funext j; simp only [upd, del]; split
  · rename_i hj; rw [hj, hk]
  · rfl
theorem del_none {h : Heap} {k : Nat} : del h k k = none := by simp [del]

theorem splice_set {c : List D} {off : Nat} {x : D} (ho : off < c.length) : splice c off [x] = c.set off x := by
  simp only [splice, List.length_singleton]
  rw [List.set_eq_take_append_cons_drop, if_pos ho, List.append_assoc]; rfl
theorem dec_true {p : Prop} [Decidable p] (h : p) : decide p = true := decide_eq_true h
theorem dec_false {p : Prop} [Decidable p] (h : ¬p) : decide p = false := decide_eq_false h
theorem beq_int_true {a b : Int} (h : a = b) : (a == b) = true := by simp [h]
theorem beq_int_false {a b : Int} (h : a ≠ b) : (a == b) = false := by simp [h]
theorem bne_int_true {a b : Int} (h : a ≠ b) : (a != b) = true := by simp [bne, h]
theorem bne_int_false {a b : Int} (h : a = b) : (a != b) = false := by simp [h]
theorem beq_dec (a b : Int) : (a == b) = decide (a = b) := by by_cases h : a = b <;> simp [h]
theorem bne_dec (a b : Int) : (a != b) = decide (a ≠ b) := by by_cases h : a = b <;> simp [bne, h]
theorem ge_dec (a b : Int) : decide (a ≥ b) = decide (b ≤ a) := rfl
theorem gt_dec (a b : Int) : decide (a > b) = decide (b < a) := rfl

theorem w64 {n : Int} (h : -9223372036854775808 ≤ n ∧ n ≤ 9223372036854775807) : IntKind.i64.wrap n = n := IntWalk.i64_in n h
theorem wu8 {n : Int} (h : 0 ≤ n ∧ n ≤ 255) : IntKind.u8.wrap n = n := IntWalk.u8_in n h
theorem wu16 {n : Int} (h : 0 ≤ n ∧ n ≤ 65535) : IntKind.u16.wrap n = n := IntWalk.u16_in n h
theorem wu32 {n : Int} (h : 0 ≤ n ∧ n ≤ 4294967295) : IntKind.u32.wrap n = n := IntWalk.u32_in n h
theorem wu64 {n : Int} (h : 0 ≤ n ∧ n ≤ 18446744073709551615) : IntKind.u64.wrap n = n := IntWalk.u64_in n h
theorem tm_nn {x y : Int} (h : 0 ≤ x) : x.tmod y = x % y := Int.tmod_eq_emod_of_nonneg h
theorem fd_nn {x y : Int} (h : 0 ≤ y) : x.fdiv y = x / y := Int.fdiv_eq_ediv_of_nonneg x h
theorem td_nn {x y : Int} (h : 0 ≤ x) : x.tdiv y = x / y := Int.tdiv_eq_ediv_of_nonneg h

end Go.AM
