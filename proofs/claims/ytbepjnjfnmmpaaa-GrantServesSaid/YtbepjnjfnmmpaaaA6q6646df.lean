/- Accounts: margins, charges. -/
import Derived.Test.YtbepjnjfnmmpaaaA5q991dc6
import Derived.Test.YtbepjnjfnmmpaaaAmZ3qd9e510
set_option linter.unusedSimpArgs false
set_option linter.unusedVariables false
namespace Go.Proofs.Ytbepjnjfnmmpaaa
open Go.AM Classical
set_option maxRecDepth 100000
set_option maxHeartbeats 4000000
def mx (l : List Acct) (j : Nat) : Int := if h : j < l.length then l[j].max else 0
theorem mx_at {l : List Acct} {j : Nat} (h : j < l.length) : mx l j = l[j].max := dif_pos h
theorem mx_in {l : List Acct} (h : amtTo l l.length) (j : Nat) : 0 ≤ mx l j ∧ mx l j ≤ 1048576 := by
  unfold mx
  split
  · rename_i hj; exact (h j hj hj).2.2.2
  · omega
theorem pathG_in {l : List Acct} (ht : treeP l) : ∀ (f : Nat) (a : Int), a < l.length → ∀ x ∈ pathG l f a, 0 ≤ x ∧ x < l.length ∧ x ≤ a
  | 0, _, _, x, hx => by simp [pathG] at hx
  | f + 1, a, ha, x, hx => by
    unfold pathG at hx
    split at hx
    · rename_i h0
      rcases List.mem_cons.1 hx with rfl | hx
      · exact ⟨h0, ha, Int.le_refl _⟩
      · have := pa_lt ht (a := a) ⟨h0, ha⟩
        have := pathG_in ht f (pa l a.toNat) (by omega) x hx
        omega
    · simp at hx
theorem pathF_in {l : List Acct} {a : Int} {x : Int} (hx : x ∈ pathF l a) : 0 ≤ x ∧ x < l.length := by
  unfold pathF at hx
  split at hx
  · rename_i h
    have := pathG_in (chk_ok h.1).2.1 8 a h.2.2 x hx
    omega
  · simp at hx
/-! ### Margins -/
def roomA (l : List Acct) (x : Int) : Int := mx l x.toNat - us l x.toNat
end Go.Proofs.Ytbepjnjfnmmpaaa
