/- The statement TopGrantsEnd: for every input the law returns true, and its arguments read afterwards as they read before. No condition. -/
import Derived.Test.YtbepjnjfnmmpaaaRows
import Derived.Test.YtbepjnjfnmmpaaaG22qde1ba6
import Derived.Test.YtbepjnjfnmmpaaaAmY
import Derived.WalkKit
import Derived.ProofKit
import Derived.OpenShut
set_option linter.unusedSimpArgs false
set_option linter.unusedVariables false
namespace Go.Proofs.Ytbepjnjfnmmpaaa
open Go.ChangeShapes Go.WideShapes Go.ChangeAt Go.RowKit
open Go.AM (PCon TypedA All2 RP below Out OutC)

theorem topGrantsEnd_own : ownKnob Try.prog.godebug = none := by kernel_rfl
theorem topGrantsEnd_laidOut : laidOutB Try.prog = true := by kernel_rfl
theorem topGrantsEnd_sup : Try.f10.params.toList.all (AM.sup Try.prog 6) = true := by kernel_rfl
theorem topGrantsEnd_rec : Try.f10.params.toList.all (fun t => Try.prog.readableRec t && decide (t < Try.prog.types.size)) = true := by kernel_rfl
theorem topGrantsEnd_par : Try.f10.params.size = 1 := by kernel_rfl
theorem topGrantsEnd_bool : ∃ t, Try.f10.resultTypes = #[t] ∧ Try.prog.underlying t = some .bool := ⟨_, rfl, by kernel_rfl⟩

set_option maxRecDepth 100000 in
theorem topGrantsEnd_lifted (con : ∀ dts, All2 (TypedA Try.prog) Try.f10.params.toList dts → PCon Try.prog 10 dts (.bool true)) (os : Os) (started : os.Started) (H : Type) (enc : TypeId × Value → H) :
    ReturnsInHanded {} Try.checked os 10 .any (Rows.topGrantsEndSpec.pre6 enc Try.prog Try.f10 Rows.topGrantsEndRow.domain false) (Rows.topGrantsEndSpec.post enc Try.prog Try.f10 false true false false) := by
  refine returnsInHanded_of_change (C := Try.checked) topGrantsEnd_own started (by kernel_rfl) Try.func10
    (ChangeSpec.witness6 (enc := enc) (C := Try.checked) false ⟨#[], Try.f10.params.map (fun t => ((Try.prog.info? t).bind (·.zero)).getD undef), []⟩ 8 (by kernel_rfl) (by kernel_rfl) (by kernel_rfl) (by kernel_rfl)) ?_
  intro W base args ds gs before hval0 hW hcnd _
  have hW' := hW
  obtain ⟨p, q, hA, hV, rfl, hfz, hnd⟩ := hW
  obtain ⟨rfl, rfl⟩ := trodVars_none hV
  obtain ⟨dts, hall, hty⟩ := AM.args_open Try.f10.params.toList args.toList ds p topGrantsEnd_sup hA (fun j t v ht hv => ⟨_, _, hval0 j t v (by simpa using ht) (by simpa using hv)⟩)
  refine ((con dts hty).2 W args hall).mono fun e W' ⟨v, he, hsame, hsize, hso, x, hx, hout⟩ => ?_
  have hv : v = .bool true := by
    cases hout with | bool b => rfl
  subst hv
  subst he
  have bel : Below W.heap.size W W' := ⟨hso.os, hso.tape, hso.output, hsize, hsame⟩
  have stays := AM.trodAll_stays topGrantsEnd_laidOut bel _ _ _ _ topGrantsEnd_rec hA
  have hlen : ds.length = 1 := by
    have h1 := hty.1
    have h2 := hall.1
    have key : ∀ (ts : List TypeId) (vs : List Value) (ds : List (DataW H)) (ps : List MemPlace), DataW.TrodAll enc Try.prog W 0 (fun _ => true) true ts vs ds ps → ds.length = ts.length := by
      intro ts
      induction ts with
      | nil => intro vs ds ps h; cases vs <;> cases ds <;> first | rfl | exact h.elim
      | cons t r ih => intro vs ds ps h; cases vs <;> cases ds <;> first | exact h.elim | (obtain ⟨p, q, _, h2, _⟩ := h; simp only [List.length_cons]; rw [ih _ _ _ h2])
    rw [key _ _ _ _ hA, Array.length_toList, topGrantsEnd_par]
  obtain ⟨t, ht, hb⟩ := topGrantsEnd_bool
  match ds, hlen with
  | [d1], _ =>
    refine ⟨_, rfl, _, _, _, [], _, [], hW', ?_, stays, rfl, bel.frame _, fun h => by cases h⟩
    rw [ht]
    exact trodAll_mk1 (shut_bool hb _)

theorem topGrantsEnd_over (con : ∀ dts, All2 (TypedA Try.prog) Try.f10.params.toList dts → PCon Try.prog 10 dts (.bool true)) : Rows.topGrantsEndRow.holds Try.pinned (OpenSpec.ofChange Rows.topGrantsEndSpec) :=
  OpenClaim.holds_of_wide 10 Try.f10 rfl rfl rfl rfl rfl rfl rfl ⟨rfl, rfl, rfl, rfl, rfl⟩ rfl rfl rfl rfl rfl (by kernel_rfl) Try.func10 (by kernel_rfl)
    (of_decide_eq_true (by kernel_rfl)) (by unfold Func.isWrapper; first | (rw [if_pos (by decide +kernel)]; kernel_rfl) | (rw [if_neg (by decide +kernel)]; exact ⟨rfl, rfl⟩))
    (fun os started H enc _ => topGrantsEnd_lifted con os started H enc)

theorem topGrantsEnd_holds : Rows.TopGrantsEndSaid := topGrantsEnd_over gend_t
#print axioms topGrantsEnd_holds
end Go.Proofs.Ytbepjnjfnmmpaaa
