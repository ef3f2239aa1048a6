/- Asks: plain laws of serving. -/
import Derived.Test.YtbepjnjfnmmpaaaG5q2943d1
import Derived.Test.YtbepjnjfnmmpaaaP5q239f23
import Derived.Test.YtbepjnjfnmmpaaaAmZ3qd9e510
set_option linter.unusedSimpArgs false
set_option linter.unusedVariables false
namespace Go.Proofs.Ytbepjnjfnmmpaaa
open Go.AM Classical
set_option maxRecDepth 100000
set_option maxHeartbeats 4000000
def kerS : List Ask → Int
  | [] => 0
  | a :: r => a.kernel + kerS r
def totS : List Ask → Int
  | [] => 0
  | a :: r => totA a + totS r
def okQ (q : List Ask) (n : Nat) : Prop := ∀ a ∈ q, vaP a ∧ a.account < n
theorem okQ_cons {a : Ask} {r : List Ask} {n : Nat} (h : okQ (a :: r) n) : (vaP a ∧ a.account < n) ∧ okQ r n := ⟨h a (by simp), fun b hb => h b (List.mem_cons_of_mem _ hb)⟩
theorem srv_all : ∀ (q : List Ask) (l : List Acct) (no al : Int), chkF l = 0 → okQ q l.length → ∀ k g, srvL q l no al = (k, g) →
    k ≤ q.length ∧ chkF g = 0 ∧ g.length = l.length ∧ us g 0 = us l 0 + totS (q.take k) ∧ (0 < k → kerS (q.take k) ≤ no ∧ totS (q.take k) ≤ al) ∧ srvL (q.drop k) g (no - kerS (q.take k)) (al - totS (q.take k)) = (0, g)
  | [], l, no, al, hc, _, k, g, h => by
    rw [srvL] at h
    cases h
    exact ⟨by simp, hc, rfl, by simp [totS], fun h => by omega, by simp [srvL]⟩
  | a :: r, l, no, al, hc, hq, k, g, h => by
    obtain ⟨⟨hv, ha⟩, hr⟩ := okQ_cons hq
    have h0 := h
    rw [srvL_cons] at h
    by_cases hf : fitP a l no al
    · rw [if_pos hf] at h
      have hcan := fit_can hv hc ha hf
      have hg := can_chk hcan
      have hl := addF_len l a.account (totA a)
      generalize hs : srvL r (addF l a.account (totA a)) (no - a.kernel) (al - totA a) = s at h
      obtain ⟨k', g'⟩ := s
      cases h
      obtain ⟨i1, i2, i3, i4, i5, i6⟩ := srv_all r _ _ _ hg (by rw [hl]; exact hr) k' g' hs
      have hz : (0 : Int) ∈ pathF l a.account := by rw [pathF, if_pos hcan.1]; exact path_zero hcan.1
      have hu := addF_us (n := totA a) hcan.1 (j := 0) (by have := (chk_ok hc).1; omega)
      rw [if_pos (show ((0 : Nat) : Int) ∈ _ from hz)] at hu
      refine ⟨by simpa using i1, i2, by rw [i3, hl], ?_, fun _ => ?_, ?_⟩
      · dsimp only; rw [i4, hu, List.take_succ_cons, totS]; omega
      · dsimp only
        rw [List.take_succ_cons, kerS, totS]
        by_cases h0 : 0 < k'
        · have := i5 h0; omega
        · have : k' = 0 := by omega
          subst this
          have := hf.2
          simp [kerS, totS]; omega
      · dsimp only
        rw [List.take_succ_cons, List.drop_succ_cons, kerS, totS, show no - (a.kernel + kerS (r.take k')) = no - a.kernel - kerS (r.take k') by omega, show al - (totA a + totS (r.take k')) = al - totA a - totS (r.take k') by omega]
        exact i6
    · rw [if_neg hf] at h
      cases h
      refine ⟨by simp, hc, rfl, by simp [totS], fun h => by omega, ?_⟩
      rw [List.take_zero, List.drop_zero, kerS, totS, show no - 0 = no by omega, show al - 0 = al by omega]
      exact h0
end Go.Proofs.Ytbepjnjfnmmpaaa
