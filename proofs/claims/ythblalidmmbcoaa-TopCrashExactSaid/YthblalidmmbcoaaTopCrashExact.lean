/- The statement TopCrashExact: for every input the law returns true, and its arguments read afterwards as they read before. No condition. -/
import Derived.Test.YthblalidmmbcoaaRows
import Derived.Test.YthblalidmmbcoaaX12q7efb89
import Derived.Test.YthblalidmmbcoaaAmY
import Derived.WalkKit
import Derived.ProofKit
import Derived.OpenShut
set_option linter.unusedSimpArgs false
set_option linter.unusedVariables false
namespace Go.Proofs.Ythblalidmmbcoaa
open Go.ChangeShapes Go.WideShapes Go.ChangeAt Go.RowKit
open Go.AM (PCon TypedA All2 RP below Out OutC)

theorem topCrashExact_own : ownKnob Try.prog.godebug = none := by kernel_rfl
theorem topCrashExact_laidOut : laidOutB Try.prog = true := by kernel_rfl
theorem topCrashExact_sup : Try.f12.params.toList.all (AM.sup Try.prog 6) = true := by kernel_rfl
theorem topCrashExact_rec : Try.f12.params.toList.all (fun t => Try.prog.readableRec t && decide (t < Try.prog.types.size)) = true := by kernel_rfl
theorem topCrashExact_par : Try.f12.params.size = 1 := by kernel_rfl
theorem topCrashExact_bool : ∃ t, Try.f12.resultTypes = #[t] ∧ Try.prog.underlying t = some .bool := ⟨_, rfl, by kernel_rfl⟩

set_option maxRecDepth 100000 in
theorem topCrashExact_lifted (con : ∀ dts, All2 (TypedA Try.prog) Try.f12.params.toList dts → PCon Try.prog 12 dts (.bool true)) (os : Os) (started : os.Started) (H : Type) (enc : TypeId × Value → H) :
    ReturnsInHanded {} Try.checked os 12 .any (Rows.topCrashExactSpec.pre6 enc Try.prog Try.f12 Rows.topCrashExactRow.domain false) (Rows.topCrashExactSpec.post enc Try.prog Try.f12 false true false false) := by
  refine returnsInHanded_of_change (C := Try.checked) topCrashExact_own started (by kernel_rfl) Try.func12
    (ChangeSpec.witness6 (enc := enc) (C := Try.checked) false ⟨#[], Try.f12.params.map (fun t => ((Try.prog.info? t).bind (·.zero)).getD undef), []⟩ 8 (by kernel_rfl) (by kernel_rfl) (by kernel_rfl) (by kernel_rfl)) ?_
  intro W base args ds gs before hval0 hW hcnd _
  have hW' := hW
  obtain ⟨p, q, hA, hV, rfl, hfz, hnd⟩ := hW
  obtain ⟨rfl, rfl⟩ := trodVars_none hV
  obtain ⟨dts, hall, hty⟩ := AM.args_open Try.f12.params.toList args.toList ds p topCrashExact_sup hA (fun j t v ht hv => ⟨_, _, hval0 j t v (by simpa using ht) (by simpa using hv)⟩)
  refine ((con dts hty).2 W args hall).mono fun e W' ⟨v, he, hsame, hsize, hso, x, hx, hout⟩ => ?_
  have hv : v = .bool true := by
    cases hout with | bool b => rfl
  subst hv
  subst he
  have bel : Below W.heap.size W W' := ⟨hso.os, hso.tape, hso.output, hsize, hsame⟩
  have stays := AM.trodAll_stays topCrashExact_laidOut bel _ _ _ _ topCrashExact_rec hA
  have hlen : ds.length = 1 := by
    have h1 := hty.1
    have h2 := hall.1
    have key : ∀ (ts : List TypeId) (vs : List Value) (ds : List (DataW H)) (ps : List MemPlace), DataW.TrodAll enc Try.prog W 0 (fun _ => true) true ts vs ds ps → ds.length = ts.length := by
      intro ts
      induction ts with
      | nil => intro vs ds ps h; cases vs <;> cases ds <;> first | rfl | exact h.elim
      | cons t r ih => intro vs ds ps h; cases vs <;> cases ds <;> first | exact h.elim | (obtain ⟨p, q, _, h2, _⟩ := h; simp only [List.length_cons]; rw [ih _ _ _ h2])
    rw [key _ _ _ _ hA, Array.length_toList, topCrashExact_par]
  obtain ⟨t, ht, hb⟩ := topCrashExact_bool
  match ds, hlen with
  | [d1], _ =>
    refine ⟨_, rfl, _, _, _, [], _, [], hW', ?_, stays, rfl, bel.frame _, fun h => by cases h⟩
    rw [ht]
    exact trodAll_mk1 (shut_bool hb _)

theorem topCrashExact_over (con : ∀ dts, All2 (TypedA Try.prog) Try.f12.params.toList dts → PCon Try.prog 12 dts (.bool true)) : Rows.topCrashExactRow.holds Try.pinned (OpenSpec.ofChange Rows.topCrashExactSpec) :=
  OpenClaim.holds_of_wide 12 Try.f12 rfl rfl rfl rfl rfl rfl rfl ⟨rfl, rfl, rfl, rfl, rfl⟩ rfl rfl rfl rfl rfl (by kernel_rfl) Try.func12 (by kernel_rfl)
    (of_decide_eq_true (by kernel_rfl)) (by unfold Func.isWrapper; first | (rw [if_pos (by decide +kernel)]; kernel_rfl) | (rw [if_neg (by decide +kernel)]; exact ⟨rfl, rfl⟩))
    (fun os started H enc _ => topCrashExact_lifted con os started H enc)

theorem topCrashExact_holds : Rows.TopCrashExactSaid := topCrashExact_over exact_top_t
#print axioms topCrashExact_holds
end Go.Proofs.Ythblalidmmbcoaa
