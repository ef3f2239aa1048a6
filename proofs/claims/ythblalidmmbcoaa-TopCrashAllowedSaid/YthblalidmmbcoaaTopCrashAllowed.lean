/- The statement TopCrashAllowed: for every input the law returns true, and its arguments read afterwards as they read before. No condition. -/
import Derived.Test.YthblalidmmbcoaaRows
import Derived.Test.YthblalidmmbcoaaX11q215339
import Derived.Test.YthblalidmmbcoaaAmY
import Derived.WalkKit
import Derived.ProofKit
import Derived.OpenShut
set_option linter.unusedSimpArgs false
set_option linter.unusedVariables false
namespace Go.Proofs.Ythblalidmmbcoaa
open Go.ChangeShapes Go.WideShapes Go.ChangeAt Go.RowKit
open Go.AM (PCon TypedA All2 RP below Out OutC)

theorem topCrashAllowed_own : ownKnob Try.prog.godebug = none := by kernel_rfl
theorem topCrashAllowed_laidOut : laidOutB Try.prog = true := by kernel_rfl
theorem topCrashAllowed_sup : Try.f13.params.toList.all (AM.sup Try.prog 6) = true := by kernel_rfl
theorem topCrashAllowed_rec : Try.f13.params.toList.all (fun t => Try.prog.readableRec t && decide (t < Try.prog.types.size)) = true := by kernel_rfl
theorem topCrashAllowed_par : Try.f13.params.size = 2 := by kernel_rfl
theorem topCrashAllowed_bool : ∃ t, Try.f13.resultTypes = #[t] ∧ Try.prog.underlying t = some .bool := ⟨_, rfl, by kernel_rfl⟩

set_option maxRecDepth 100000 in
theorem topCrashAllowed_lifted (con : ∀ dts, All2 (TypedA Try.prog) Try.f13.params.toList dts → PCon Try.prog 13 dts (.bool true)) (os : Os) (started : os.Started) (H : Type) (enc : TypeId × Value → H) :
    ReturnsInHanded {} Try.checked os 13 .any (Rows.topCrashAllowedSpec.pre6 enc Try.prog Try.f13 Rows.topCrashAllowedRow.domain false) (Rows.topCrashAllowedSpec.post enc Try.prog Try.f13 false true false false) := by
  refine returnsInHanded_of_change (C := Try.checked) topCrashAllowed_own started (by kernel_rfl) Try.func13
    (ChangeSpec.witness6 (enc := enc) (C := Try.checked) false ⟨#[], Try.f13.params.map (fun t => ((Try.prog.info? t).bind (·.zero)).getD undef), []⟩ 8 (by kernel_rfl) (by kernel_rfl) (by kernel_rfl) (by kernel_rfl)) ?_
  intro W base args ds gs before hval0 hW hcnd _
  have hW' := hW
  obtain ⟨p, q, hA, hV, rfl, hfz, hnd⟩ := hW
  obtain ⟨rfl, rfl⟩ := trodVars_none hV
  obtain ⟨dts, hall, hty⟩ := AM.args_open Try.f13.params.toList args.toList ds p topCrashAllowed_sup hA (fun j t v ht hv => ⟨_, _, hval0 j t v (by simpa using ht) (by simpa using hv)⟩)
  refine ((con dts hty).2 W args hall).mono fun e W' ⟨v, he, hsame, hsize, hso, x, hx, hout⟩ => ?_
  have hv : v = .bool true := by
    cases hout with | bool b => rfl
  subst hv
  subst he
  have bel : Below W.heap.size W W' := ⟨hso.os, hso.tape, hso.output, hsize, hsame⟩
  have stays := AM.trodAll_stays topCrashAllowed_laidOut bel _ _ _ _ topCrashAllowed_rec hA
  have hlen : ds.length = 2 := by
    have h1 := hty.1
    have h2 := hall.1
    have key : ∀ (ts : List TypeId) (vs : List Value) (ds : List (DataW H)) (ps : List MemPlace), DataW.TrodAll enc Try.prog W 0 (fun _ => true) true ts vs ds ps → ds.length = ts.length := by
      intro ts
      induction ts with
      | nil => intro vs ds ps h; cases vs <;> cases ds <;> first | rfl | exact h.elim
      | cons t r ih => intro vs ds ps h; cases vs <;> cases ds <;> first | exact h.elim | (obtain ⟨p, q, _, h2, _⟩ := h; simp only [List.length_cons]; rw [ih _ _ _ h2])
    rw [key _ _ _ _ hA, Array.length_toList, topCrashAllowed_par]
  obtain ⟨t, ht, hb⟩ := topCrashAllowed_bool
  match ds, hlen with
  | [d1, d2], _ =>
    refine ⟨_, rfl, _, _, _, [], _, [], hW', ?_, stays, rfl, bel.frame _, fun h => by cases h⟩
    rw [ht]
    exact trodAll_mk1 (shut_bool hb _)

theorem topCrashAllowed_over (con : ∀ dts, All2 (TypedA Try.prog) Try.f13.params.toList dts → PCon Try.prog 13 dts (.bool true)) : Rows.topCrashAllowedRow.holds Try.pinned (OpenSpec.ofChange Rows.topCrashAllowedSpec) :=
  OpenClaim.holds_of_wide 13 Try.f13 rfl rfl rfl rfl rfl rfl rfl ⟨rfl, rfl, rfl, rfl, rfl⟩ rfl rfl rfl rfl rfl (by kernel_rfl) Try.func13 (by kernel_rfl)
    (of_decide_eq_true (by kernel_rfl)) (by unfold Func.isWrapper; first | (rw [if_pos (by decide +kernel)]; kernel_rfl) | (rw [if_neg (by decide +kernel)]; exact ⟨rfl, rfl⟩))
    (fun os started H enc _ => topCrashAllowed_lifted con os started H enc)

theorem topCrashAllowed_holds : Rows.TopCrashAllowedSaid := topCrashAllowed_over allowed_t
#print axioms topCrashAllowed_holds
end Go.Proofs.Ythblalidmmbcoaa
