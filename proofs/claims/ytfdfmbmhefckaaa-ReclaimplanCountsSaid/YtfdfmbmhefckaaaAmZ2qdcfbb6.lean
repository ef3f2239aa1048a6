/- Appending to growable slices: the new block. -/
import Derived.Test.YtfdfmbmhefckaaaAmZ
set_option linter.unusedSimpArgs false
set_option linter.unusedVariables false
namespace Go.AM
open Go
/-! ### Appending something: the new block -/
theorem append_own2 {h : Heap} {d y : D} {sz bytes n m key : Nat} {cells new : List D} (ho : SlOwn h d sz cells n) (hy : lenA y = some m) (hs : srcD h sz m y = some new) (hl : new.length = m * sz) (hsz : 0 < sz) (hm : m ≠ 0) (hr : (n + m) * bytes ≤ room) (hk : h key = none) :
    ∃ h', appD h key sz bytes d y = some (.sl key sz 0 (n + m), h') ∧ h' key = some (cells ++ new) ∧ (∀ j c, h j = some c → (∀ sz off n, d ≠ .sl j sz off n) → h' j = some c) := by
  obtain ⟨hc, ⟨rfl, hd⟩ | ⟨k, rfl, hkc⟩⟩ := ho
  · have hc0 : cells = [] := by cases cells with | nil => rfl | cons _ _ => simp at hc
    subst hc0
    have hr' : m * bytes ≤ room := by simpa using hr
    have hoth : ∀ j c, h j = some c → upd h key new j = some c := fun j c hj => by rw [upd_ne (by rintro rfl; rw [hk] at hj; cases hj)]; exact hj
    rcases hd with rfl | rfl
    · exact ⟨_, by simp [appD, hy, hs, hm, hr'], upd_self, fun j c hj _ => hoth j c hj⟩
    · exact ⟨_, by simp [appD, hy, hs, hm, hr'], upd_self, fun j c hj _ => hoth j c hj⟩
  · have hlt : ¬ ((n + m) * sz ≤ cells.length) := by
      rw [hc, Nat.add_mul]
      have : 0 < m * sz := Nat.mul_pos (by omega) hsz
      omega
    refine ⟨upd (del h k) key (cells ++ new), ?_, upd_self, ?_⟩
    · rw [hc] at hlt
      simp only [appD, hy, hs, if_true, hkc, if_neg hm, Nat.zero_add, hc, true_and, if_pos hr]
      rw [if_neg hlt]
    · intro j c hj hne
      rw [upd_ne (by rintro rfl; rw [hk] at hj; cases hj)]
      simp only [del]
      rw [if_neg (by rintro rfl; exact hne sz 0 n rfl)]
      exact hj
theorem s_app2 {P : Program} {e : Env} {h : Heap} {r : List AIns} {K : Env → Heap → Prop} {t : Nat} {sz bytes n m : Nat} {x y : O} {d dy : D} {cells new : List D} (h1 : evO (get e) x = some d) (h2 : evO (get e) y = some dy) (ho : SlOwn h d sz cells n) (hy : lenA dy = some m) (hs : srcD h sz m dy = some new) (hl : new.length = m * sz ∧ 0 < sz ∧ m ≠ 0) (hr : (n + m) * bytes ≤ room)
    (hw : ∀ key h', h key = none → h' key = some (cells ++ new) → (∀ j c, h j = some c → (∀ sz off n, d ≠ .sl j sz off n) → h' j = some c) → Wops P r ((t, .sl key sz 0 (n + m)) :: e) h' K) : Wops P (⟨some t, .append sz bytes x y, none⟩ :: r) e h K :=
  s_append h1 h2 fun k hk => let ⟨h', h3, h4, h5⟩ := append_own2 ho hy hs hl.1 hl.2.1 hl.2.2 hr hk; ⟨_, h', h3, hw k h' hk h4 h5⟩
def Fr (d : D) (j : Nat) : Prop := ∀ sz off n, d ≠ .sl j sz off n
theorem Fr.sl {k j sz off n : Nat} (h : k ≠ j) : Fr (.sl k sz off n) j := fun _ _ _ he => by injection he; contradiction
theorem Fr.nil {j : Nat} : Fr .nil j := fun _ _ _ he => by cases he
def Dis (d d' : D) : Prop := ∀ j, Fr d j ∨ Fr d' j
theorem Dis.symm {d d' : D} (h : Dis d d') : Dis d' d := fun j => (h j).symm
theorem SlOwn.dis {h : Heap} {d : D} {sz n k : Nat} {cells : List D} (ho : SlOwn h d sz cells n) {sz' n' : Nat} (hk : h k = none) : Dis d (.sl k sz' 0 n') := by
  intro j
  by_cases hj : j = k
  · subst hj; exact .inl (ho.fresh hk)
  · exact .inr (Fr.sl (Ne.symm hj))
theorem SlOwn.oth {h h' : Heap} {d d0 : D} {sz n : Nat} {cells : List D} (ho : SlOwn h d sz cells n) (hd : Dis d0 d) (hh : ∀ j c, h j = some c → (∀ sz off n, d0 ≠ .sl j sz off n) → h' j = some c) : SlOwn h' d sz cells n := by
  obtain ⟨hc, ⟨rfl, hn⟩ | ⟨k, rfl, hkc⟩⟩ := ho
  · exact ⟨hc, .inl ⟨rfl, hn⟩⟩
  · refine ⟨hc, .inr ⟨k, rfl, hh k _ hkc ?_⟩⟩
    rcases hd k with h1 | h1
    · exact h1
    · exact absurd rfl (h1 sz 0 n)
end Go.AM
