/- Protection: plain laws. -/
import Derived.Test.YtmelmpaiplmjmaaP2qc7fcfd
set_option linter.unusedSimpArgs false
set_option linter.unusedVariables false
namespace Go.Proofs.Ytmelmpaiplmjmaa
open Go.AM Classical
set_option maxRecDepth 100000
set_option maxHeartbeats 4000000
theorem pathG_fuel {l : List Acct} (ht : treeP l) : ∀ (f g : Nat) (a : Int), a < f → a < g → a < l.length → pathG l f a = pathG l g a
  | 0, 0, _, _, _, _ => rfl
  | 0, g + 1, a, h, _, _ => by rw [pathG, pathG, if_neg (by omega)]
  | f + 1, 0, a, _, h, _ => by rw [pathG, pathG, if_neg (by omega)]
  | f + 1, g + 1, a, h1, h2, h3 => by
    rw [pathG, pathG]
    by_cases h0 : 0 ≤ a
    · have hp := pa_lt ht (a := a) ⟨h0, h3⟩
      rw [if_pos h0, if_pos h0, pathG_fuel ht f g _ (by omega) (by omega) (by omega)]
    · rw [if_neg h0, if_neg h0]
theorem path_mem {l : List Acct} {a : Int} (h : isP l a) {y : Int} : y ∈ pathG l 8 a ↔ y = a ∨ y ∈ pathG l 8 (pa l a.toNat) := by
  obtain ⟨hl, ht, _⟩ := chk_ok h.1
  have hp := pa_lt ht h.2
  have h2 := h.2
  rw [show pathG l 8 a = pathG l (7 + 1) a from rfl, pathG, if_pos h.2.1, List.mem_cons, pathG_fuel ht 7 8 _ (by omega) (by omega) (by omega)]
theorem path_self {l : List Acct} {a : Int} (h : isP l a) : a ∈ pathG l 8 a := (path_mem h).2 (.inl rfl)
theorem path_range {l : List Acct} {a y : Int} (h : isP l a) (hy : y ∈ pathG l 8 a) : 0 ≤ y ∧ y < l.length ∧ y ≤ a :=
  pathG_in (chk_ok h.1).2.1 8 a h.2.2 y hy
/-- If more is left in a scope than is guaranteed, pages may be taken. -/
theorem open_ex {l : List Acct} {v : List Int} {fr : Int} (hv : valP l v) (ho : ∀ x, x < l.length → ¬ ovrP l fr x) {s : Nat} (hs : s < l.length) (hf : (if s = 0 then fr else mn l s) < us l s - insF l (vF v) s) : ∃ c, c < l.length ∧ openP l v s c := by
  obtain ⟨hl, ht, ha, _⟩ := chk_ok hv.1
  suffices H : ∀ n x : Nat, l.length - x = n → x < l.length → (s : Int) ∈ pathG l 8 (x : Int) → (∀ y ∈ pathG l 8 (x : Int), 0 < y → (s : Int) < y → mn l y.toNat < us l y.toNat - insF l (vF v) y) → (if x = 0 then fr else mn l x) < us l x - insF l (vF v) x → ∃ c, c < l.length ∧ openP l v s c from
    H _ s rfl hs (path_self (isP_mk hv.1 hs)) (fun y hy _ h => by have := path_range (isP_mk hv.1 hs) hy; omega) hf
  intro n
  induction n using Nat.strongRecOn with
  | _ n ih =>
    intro x hn hx hsx hpx hfx
    have hp := isP_mk hv.1 hx
    by_cases h1 : vF v x < us l x - kids l x
    · refine ⟨x, hx, h1, ?_⟩
      rintro (h2 | ⟨y, hy, hy0, hys, hyf⟩)
      · exact h2 ⟨⟨hv, ⟨by omega, by omega⟩, by omega, by omega⟩, .inr hsx⟩
      · have := hpx y hy hy0 hys
        simp only [flr] at hyf
        simp at hyf
        omega
    · have hov := ho x hx
      unfold ovrP at hov
      have hr := ins_rec hv.1 (vF v) hx
      have hk : kids l x = kT l (us l) x l.length := kT_us l x l.length
      have hc : ∃ c, c < l.length ∧ 0 < c ∧ pa l c = x ∧ mn l c < us l c - insF l (vF v) c := by
        refine Classical.byContradiction fun hno => ?_
        have h3 : kT l (us l) x l.length ≤ kT l (fun c => mn l c + insF l (vF v) (c : Int)) x l.length := kT_le _ _ fun c hc h0 hpc => by
          have : ¬ mn l c < us l c - insF l (vF v) c := fun h => hno ⟨c, hc, h0, hpc, h⟩
          show us l c ≤ mn l c + insF l (vF v) (c : Int)
          omega
        rw [kT_add] at h3
        omega
      obtain ⟨c, hc, h0, hpc, hcf⟩ := hc
      have hpcx := isP_mk hv.1 hc
      have hm : ∀ y, y ∈ pathG l 8 (c : Int) ↔ y = c ∨ y ∈ pathG l 8 (x : Int) := fun y => by rw [path_mem hpcx, Int.toNat_natCast, hpc]
      have hxc := path_range hpcx ((hm x).2 (.inr (path_self hp)))
      have hcx : x < c := by
        have := pa_lt ht hpcx.2
        rw [Int.toNat_natCast, hpc] at this
        omega
      refine ih (l.length - c) (by omega) c rfl hc ((hm s).2 (.inr hsx)) (fun y hy hy0 hys => ?_) (by rw [if_neg (by omega)]; exact hcf)
      rcases (hm y).1 hy with rfl | hy
      · rw [Int.toNat_natCast]; exact hcf
      · exact hpx y hy hy0 hys
end Go.Proofs.Ytmelmpaiplmjmaa
