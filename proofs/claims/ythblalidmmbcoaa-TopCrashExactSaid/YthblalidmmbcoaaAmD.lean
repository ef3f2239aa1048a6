/- The simulation of single operations, first part: what makes no memory and writes none. Generic over the program. -/
import Derived.Test.YthblalidmmbcoaaAmC
set_option linter.unusedSimpArgs false
set_option linter.unusedVariables false
namespace Go.AM

section
variable {P : Program} {s : Sg} {e : Look} {a : Act} {h h' : Heap} {o : Oper} {ao : AOp} {d : D} {kk : Nat}

theorem sim_move {x : Operand} (ho : o.op = .move x ∨ o.op = .assign x) (hc : (cO x).map AOp.mv = some ao) (H : RH s h) (E : RE s e a.tmps) (hev : evOp e h kk ao = some (d, h')) :
    Good s kk ((execOp a.eval o).run P s.w) d h' := by
  cases h1 : cO x with
  | none => rw [h1] at hc; cases hc
  | some y =>
    rw [h1] at hc; simp at hc; subst hc
    simp only [evOp] at hev
    split at hev
    · rename_i d0 h2
      injection hev with hev; injection hev with h3 h4; subst h3; subst h4
      refine Good.same H (v := a.eval x) ?_ (cO_sim h1 E h2)
      rcases ho with ho | ho <;> simp [execOp, ho]
    · cases hev

theorem sim_pick {c x y : Operand} (ho : o.op = .pick c x y) (hc : cOp P (.pick c x y) = some ao) (H : RH s h) (E : RE s e a.tmps) (hev : evOp e h kk ao = some (d, h')) :
    Good s kk ((execOp a.eval o).run P s.w) d h' := by
  simp only [cOp] at hc
  split at hc
  · rename_i c' a' b' h1 h2 h3
    injection hc with hc; subst hc
    simp only [evOp] at hev
    split at hev
    · rename_i t h4
      have hb := (cO_sim h1 E h4).inv_bool
      split at hev
      · rename_i d0 h5
        injection hev with hev; injection hev with h6 h7; subst h6; subst h7
        cases t
        · refine Good.same H (v := a.eval y) ?_ (cO_sim h3 E (by simpa using h5))
          simp [execOp, ho, hb, asBool]
        · refine Good.same H (v := a.eval x) ?_ (cO_sim h2 E (by simpa using h5))
          simp [execOp, ho, hb, asBool]
      · cases hev
    · cases hev
  · cases hc

theorem ldD_sim {g : Bool} {n off : Nat} {c : List D} {d : D} (hld : ldD g n c off = some d) {s : Sg} {cs : List Value} (hall : All2 (RC s) cs c) (hn : g = false → n = 1) :
    off + n ≤ c.length ∧ (g = true → ∃ ds, d = .agg ds ∧ All2 (RC s) ((cs.drop off).take n) ds) ∧ (g = false → ∃ v, cs[off]? = some v ∧ RC s v d) := by
  unfold ldD at hld
  cases g
  · simp at hld
    have hlt : off < c.length := by
      rcases Nat.lt_or_ge off c.length with h' | h'
      · exact h'
      · simp [List.getElem?_eq_none h'] at hld
    have := hn rfl
    refine ⟨by omega, by simp, fun _ => ?_⟩
    exact hall.get hld
  · simp at hld
    obtain ⟨h1, h2⟩ := hld
    subst h2
    exact ⟨h1, fun _ => ⟨_, rfl, (hall.drop off).take n⟩, by simp⟩

theorem sim_load {t : Nat} {x : Operand} (ho : o.op = .load t x) (hc : cOp P (.load t x) = some ao) (H : RH s h) (E : RE s e a.tmps) (hev : evOp e h kk ao = some (d, h')) :
    Good s kk ((execOp a.eval o).run P s.w) d h' := by
  simp only [cOp] at hc
  split at hc
  · rename_i n g y h1 h2 h3
    split at hc
    · rename_i hgn
      injection hc with hc; subst hc
      simp only [evOp] at hev
      split at hev
      · rename_i c off h4
        split at hev
        · rename_i d0 h5
          injection hev with hev; injection hev with h6 h7; subst h6; subst h7
          cases h8 : evO e y with
          | none => rw [h8] at h4; cases h4
          | some da =>
            rw [h8] at h4
            have hn1 : g = false → n = 1 := by rintro rfl; simpa using hgn
            have hnp : 0 < n := by
              cases g
              · have := hn1 rfl; omega
              · simp at hgn; rcases hgn with h | h <;> omega
            have hlen : off < c.length := by
              unfold ldD at h5
              cases g
              · simp at h5
                rcases Nat.lt_or_ge off c.length with h' | h'
                · exact h'
                · simp [List.getElem?_eq_none h'] at h5
              · simp at h5; omega
            obtain ⟨b, oo, cs, hv, hat, hall⟩ := memAt_sim H (cO_sim h3 E h8) h4 hlen
            obtain ⟨hle, hagg, hone⟩ := ldD_sim h5 hall hn1
            cases g
            · obtain ⟨v, hcv, hr⟩ := hone rfl
              refine Good.same H (v := v) ?_ hr.1
              have hcell := hat off v hcv
              simp [execOp, ho, hv, Instr.loadAt, Instr.sureAddr, loadVar, aggOf_run h2, hcell]
            · obtain ⟨ds, rfl, hds⟩ := hagg rfl
              refine Good.same H (v := .agg ((cs.drop off).take n).toArray) ?_ (RV.mkagg (by simpa using hds))
              have hld := (hat.sub off n).load (P := P) n (by have := hall.1; simp; omega)
              simp [execOp, ho, hv, Instr.loadAt, Instr.sureAddr, loadVar, aggOf_run h2, szOf_run h1, hld]
        · cases hev
      · cases hev
    · cases hc
  · cases hc

theorem sim_nilck {x : Operand} (ho : o.op = .nilCheck x) (hc : cOp P (.nilCheck x) = some ao) (H : RH s h) (E : RE s e a.tmps) (hev : evOp e h kk ao = some (d, h')) :
    Good s kk ((execOp a.eval o).run P s.w) d h' := by
  simp only [cOp] at hc
  cases h1 : cO x with
  | none => rw [h1] at hc; cases hc
  | some y =>
    rw [h1] at hc; simp at hc; subst hc
    simp only [evOp] at hev
    split at hev
    · rename_i c off h2
      injection hev with hev; injection hev with h6 h7; subst h6; subst h7
      have hr := cO_sim h1 E h2
      have hi := hr.inv_vp
      generalize hv : a.eval x = v at hr hi
      cases hi with
      | vp b off o' cells cs hb hcs ho' hm hrr => exact Good.same H (v := _) (by simp [execOp, ho, hv]) hr
    · rename_i k off h2
      injection hev with hev; injection hev with h6 h7; subst h6; subst h7
      have hr := cO_sim h1 E h2
      obtain ⟨_, b, hv, _⟩ := hr.inv_pt
      refine Good.same H (v := a.eval x) ?_ hr
      simp [execOp, ho, hv]
    · rename_i f fs cs h2
      injection hev with hev; injection hev with h6 h7; subst h6; subst h7
      have hr := cO_sim h1 E h2
      obtain ⟨as, bs, hv, _, _⟩ := hr.inv_fn
      refine Good.same H (v := a.eval x) ?_ hr
      simp [execOp, ho, hv]
    · cases hev

theorem b2i_run {op : BinOp} {k : IntKind} {x y r : Int} (hr : b2i op k x y = some r) (w : World) :
    (match op with
      | .add | .sub | .mul => Op.intArith op k x y
      | .quo | .rem => Op.intDiv op k x y
      | .and | .or | .xor | .andNot => Op.intBits op k x y
      | _ => Op.intCmp op x y).run P w = .ok (.int k r) w := by
  cases op <;> simp [b2i] at hr <;> first
    | (subst hr; simp [Op.intArith]; done)
    | (obtain ⟨h1, h2⟩ := hr; subst h2; simp [Op.intDiv, h1]; done)
    | (subst hr; simp [Op.intBits]; done)

theorem cmpI_run {op : BinOp} {x y : Int} {r : Bool} (hr : cmpI op x y = some r) (w : World) : (Op.intCmp op x y).run P w = .ok (.bool r) w := by
  cases op <;> simp [cmpI] at hr <;> (subst hr; simp [Op.intCmp])

theorem binD_run {op : BinOp} {va vb : Value} {x y d : D} (hx : RV s va x) (hy : RV s vb y) (hb : binD op x y = some d) (t : Nat) (w : World) :
    ∃ v, (Go.binOp op t va vb).run P w = .ok v w ∧ RV s v d := by
  unfold binD at hb
  split at hb
  · rename_i k a k' b
    have h1 := hx.inv_int; have h2 := hy.inv_int
    subst h1; subst h2
    split at hb
    · cases hs : shI .shl k a b with
      | none => rw [hs] at hb; cases hb
      | some r =>
        rw [hs] at hb; simp at hb; subst hb
        refine ⟨.int k r, ?_, .pure (.int _ _)⟩
        simp only [shI] at hs
        split at hs
        · cases hs
        · rename_i hlt; injection hs with hs; subst hs; simp [Go.binOp, Op.shift, hlt]
    · cases hs : shI .shr k a b with
      | none => rw [hs] at hb; cases hb
      | some r =>
        rw [hs] at hb; simp at hb; subst hb
        refine ⟨.int k r, ?_, .pure (.int _ _)⟩
        simp only [shI] at hs
        split at hs
        · cases hs
        · rename_i hlt; injection hs with hs; subst hs; simp [Go.binOp, Op.shift, hlt]
    all_goals try (
      split at hb
      · rename_i hk
        subst hk
        first
        | (cases hs : b2i _ k a b with
            | none => rw [hs] at hb; cases hb
            | some r =>
              rw [hs] at hb; simp at hb; subst hb
              refine ⟨.int k r, ?_, .pure (.int _ _)⟩
              have := b2i_run (P := P) hs w
              simpa [Go.binOp] using this)
      · cases hb)
    · rename_i h1 h2 h3 h4 h5 h6 h7 h8 h9 h10 h11
      split at hb
      · rename_i hk
        subst hk
        cases hs : cmpI op a b with
        | none => rw [hs] at hb; cases hb
        | some r =>
          rw [hs] at hb; simp at hb; subst hb
          refine ⟨.bool r, ?_, .pure (.bool _)⟩
          have := cmpI_run (P := P) hs w
          cases op <;> simp [cmpI] at hs <;> simpa [Go.binOp] using this
      · cases hb
  · rename_i x y
    have h1 := hx.inv_str; have h2 := hy.inv_str
    subst h1; subst h2
    split at hb
    · injection hb with hb; subst hb
      exact ⟨_, by simp [Go.binOp, Op.stringOp], .pure (.bool _)⟩
    · injection hb with hb; subst hb
      exact ⟨_, by simp [Go.binOp, Op.stringOp], .pure (.bool _)⟩
    · cases hb
  · cases hb

theorem eqGuard_plain {op : BinOp} {t : Nat} {x y : Operand} {u v : Value} (h1 : u ≠ .nilIface ∨ v ≠ .nilIface) (h2 : (∀ c, u ≠ .agg c) ∨ (∀ c, v ≠ .agg c)) (w : World) :
    (eqGuard op t x y u v).run P w = .ok () w := by
  have key : ∀ A B : Sem Unit, (match u, v with | .nilIface, .nilIface => A | .agg _, .agg _ => B | _, _ => pure ()).run P w = .ok () w := by
    intro A B
    split
    · rcases h1 with h | h <;> exact absurd rfl h
    · rename_i c1 c2; rcases h2 with h | h <;> exact absurd rfl (h _)
    · rfl
  unfold eqGuard
  cases op <;> first | rfl | (simp only [Bool.not_true, Bool.false_eq_true, if_false, Bool.not_eq_true, reduceIte]; split <;> first | rfl | (rcases h1 with h | h <;> exact absurd rfl h) | (rcases h2 with h | h <;> exact absurd rfl (h _)))

end
end Go.AM
