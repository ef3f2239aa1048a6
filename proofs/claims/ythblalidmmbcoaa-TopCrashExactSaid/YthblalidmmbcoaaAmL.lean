/- The abstract machine's code, its meaning by weakest preconditions, and the theorem that the model's code does what it says. Generic over the program. -/
import Derived.Test.YthblalidmmbcoaaAmK
import Derived.Laws.BytesString
import Derived.Carry
set_option linter.unusedSimpArgs false
set_option linter.unusedVariables false
namespace Go.AM

theorem bytesD_arr {s : Sg} : ∀ (c : List D) (ns : List Int) (l : List Value), bytesD c = some ns → All2 (RC s) l c → l = ns.map (Value.int .u8) := by
  intro c
  induction c with
  | nil =>
    intro ns l hb ha
    simp only [bytesD] at hb
    injection hb with hb; subst hb
    have := ha.1
    simpa using this
  | cons d r ih =>
    intro ns l hb ha
    cases d with
    | int k n =>
      cases k <;> simp only [bytesD] at hb <;> first | cases hb | skip
      split at hb
      · rename_i ns' hr
        injection hb with hb; subst hb
        cases l with
        | nil => have := ha.1; simp at this
        | cons v l =>
          have h0 := (ha.2 0 v _ rfl rfl).1.inv_int
          have ht : All2 (RC s) l r := ⟨by have := ha.1; simpa using this, fun i x y hx hy => ha.2 (i + 1) x y (by simpa using hx) (by simpa using hy)⟩
          rw [h0, ih ns' l hr ht]; rfl
      · cases hb
    | _ => simp [bytesD] at hb

theorem sim_strB {P : Program} {s : Sg} {e : Look} {a : Act} {h h' : Heap} {o : Oper} {d : D} {kk : Nat} {u t el : Nat} {x : Operand} {y : O} (ho : o.op = .convert u t x) (hu : P.underlying u = some (.slice el)) (hel : P.underlying el = some (.int .u8)) (ht : P.underlying t = some .string) (hx : cO x = some y) (H : RH s h) (E : RE s e a.tmps)
    (hev : evOp e h kk (.strB y) = some (d, h')) : Good s kk ((execOp a.eval o).run P s.w) d h' := by
  simp only [evOp] at hev
  split at hev
  · rename_i dx h1
    split at hev
    · rename_i r h2
      injection hev with hev; injection hev with h3 h4; subst h3; subst h4
      have hv := cO_sim hx E h1
      unfold strD at h2
      split at h2
      · rename_i n hn
        split at h2
        · rename_i c hc
          split at h2
          · rename_i ns hns
            injection h2 with h2; subst h2
            obtain ⟨b, cap, hvs⟩ := lenD_sim hv hn
            obtain ⟨hlen, arr, hall, hrun⟩ := srcD_sim (P := P) H hv hc
            have harr := bytesD_arr c ns arr.toList hns hall
            have hf := hrun s.w rfl
            rw [hvs] at hf
            cases b with
            | none =>
              exfalso
              simp [Builtin.firstCells] at hf
              have := hall.1
              rw [hf] at this
              simp at this
              omega
            | some ad =>
              simp only [Builtin.firstCells, Nat.mul_one] at hf
              have h5 : arr = (ns.map (Value.int .u8)).toArray := by apply Array.ext'; simpa using harr
              rw [h5] at hf
              refine Good.same H (v := .string (strOf ns)) ?_ (.pure (.str _))
              have := run_bytesToString (P := P) s.w ad (n + 1) cap ns hf
              simp [execOp, ho, hvs, run_convert_bytes_string _ _ _ _ _ _ _ hu hel ht, this, strOf]
          · cases h2
        · cases h2
      · rename_i hn
        injection h2 with h2; subst h2
        obtain ⟨b, cap, hvs⟩ := lenD_sim hv hn
        refine Good.same H (v := .string (strOf [])) ?_ (.pure (.str _))
        cases b with
        | none => simp [execOp, ho, hvs, run_convert_bytes_string _ _ _ _ _ _ _ hu hel ht, Conv.bytesToString, strOf]
        | some ad =>
          have h0 : (loadCells ad 0).run P s.w = .ok (([] : List Int).map (Value.int .u8)).toArray s.w := by simp [loadCells, loadCellsFrom]
          have := run_bytesToString (P := P) s.w ad 0 cap [] h0
          simp [execOp, ho, hvs, run_convert_bytes_string _ _ _ _ _ _ _ hu hel ht, this, strOf]
      · cases h2
    · cases hev
  · cases hev

theorem sim_convert {P : Program} {s : Sg} {e : Look} {a : Act} {h h' : Heap} {o : Oper} {ao : AOp} {d : D} {kk : Nat} {u t : Nat} {x : Operand} (ho : o.op = .convert u t x) (hc : cOp P (.convert u t x) = some ao) (H : RH s h) (E : RE s e a.tmps)
    (hev : evOp e h kk ao = some (d, h')) : Good s kk ((execOp a.eval o).run P s.w) d h' := by
  by_cases hs : ∃ y, ao = .strB y
  · obtain ⟨y, rfl⟩ := hs
    simp only [cOp] at hc
    split at hc
    · injection hc with hc; cases hc
    · rename_i el y' hu ht h1
      split at hc
      · rename_i hel
        injection hc with hc; injection hc with hc; subst hc
        exact sim_strB ho hu hel ht h1 H E hev
      · cases hc
    · cases hc
  · exact sim_conv (fun y hy => hs ⟨y, hy⟩) ho hc H E hev

/-! ### Maps -/
theorem RV.no_mpc {s : Sg} {v : Value} {l : List Int} (h : RV s v (.mpc l)) : False := by cases h with | pure h => cases h
theorem RH.map {s : Sg} {h : Heap} (H : RH s h) {k : Nat} {l : List Int} (hk : h k = some [.mpc l]) : s.used k ∧ s.ρ k = some (none, 1) ∧ ∃ b, s.μ k = some b ∧ MapI s.w b l := by
  obtain ⟨hu, x, hx, hn, hq⟩ := H.own k _ hk
  cases x with
  | none =>
    refine ⟨hu, hx, ?_⟩
    rcases hn rfl with h0 | ⟨l', b, h1, h2, h3⟩
    · cases h0
    · injection h1 with h1 _; injection h1 with h1; subst h1; exact ⟨b, h2, h3⟩
  | some b =>
    obtain ⟨_, cs, e, _, _, hall⟩ := hq b rfl
    obtain ⟨v, _, hv⟩ := hall.get (i := 0) (y := .mpc l) rfl
    exact hv.1.no_mpc.elim
/-- A map is written. -/
theorem RH.mput {s : Sg} {h : Heap} (H : RH s h) {k b : Nat} {l l' : List Int} (hk : h k = some [.mpc l]) (hb : s.μ k = some b) (w' : World) (hM : MapI w' b l') (hsz : s.w.heap.size ≤ w'.heap.size) (hoth : ∀ b', b' < s.w.heap.size → b' ≠ b → w'.heap[b']? = s.w.heap[b']?) (hso : SameO s.w w') :
    ∃ s' : Sg, s'.w = w' ∧ Ext s s' ∧ RH s' (upd h k [.mpc l']) ∧ s'.used = s.used := by
  obtain ⟨hu, hρ, b2, hb2, hM0⟩ := H.map hk
  rw [hb] at hb2; injection hb2 with hb2; subst hb2
  obtain ⟨⟨hbl, hmm⟩, hnp, huni⟩ := H.mu k b hu hb
  let s' : Sg := { w := w', ρ := s.ρ, μ := s.μ, prot := s.prot, base := s.base, fr := s.fr, used := s.used, next := s.next }
  have hc : ∀ (b' : Nat) (cs : Array Value) (e : Nat) (f : Nat × Nat), s.w.heap[b']? = some (.cells cs e f) → w'.heap[b']? = s.w.heap[b']? := by
    intro b' cs e f hb'
    refine hoth b' ?_ (fun e => by subst e; exact hM0.no_cells hb')
    rcases Nat.lt_or_ge b' s.w.heap.size with h' | h'
    · exact h'
    · simp [Array.getElem?_eq_none h'] at hb'
  have hx : Ext s s' := ⟨Nat.le_refl _, fun _ h => h, hsz, fun b' hb' => ⟨hb', hoth b' (H.lt b' hb') (fun e => hnp (e ▸ hb'))⟩, fun _ _ _ h => h, fun k' b' n cs e _ _ hb' => ⟨cs, (hc b' cs e _ hb').trans hb', rfl⟩, hso, fun _ _ => rfl, rfl, fun b' hb' => ⟨hb', hoth b' (H.lt b' (H.fp b' hb').1) (fun e => hnp (e ▸ (H.fp b' hb').1))⟩⟩
  refine ⟨s', rfl, hx, ⟨fun b' hb' => Nat.lt_of_lt_of_le (H.lt b' hb') hsz, H.inj, ?_, H.bound, ?_, fun k' b' h1 h2 => ⟨⟨Nat.lt_of_lt_of_le (H.mu k' b' h1 h2).1.1 hsz, ?_⟩, (H.mu k' b' h1 h2).2⟩, H.bp, H.fp⟩, rfl⟩
  rotate_left
  rotate_left
  · by_cases e : b' = b
    · subst e; exact hM.obj
    · show ∃ es clock, w'.heap[b']? = _
      rw [hoth b' (H.mu k' b' h1 h2).1.1 e]; exact (H.mu k' b' h1 h2).1.2
  · intro k' hk'
    have hk2 : (if k' = k then some [.mpc l'] else h k') = none := hk'
    by_cases ek : k' = k
    · rw [if_pos ek] at hk2; cases hk2
    · rw [if_neg ek] at hk2; exact H.dead k' hk2
  · intro k' c hk'
    have hk2 : (if k' = k then some [.mpc l'] else h k') = some c := hk'
    by_cases ek : k' = k
    · subst ek
      rw [if_pos rfl] at hk2
      injection hk2 with hk2; subst hk2
      exact ⟨hu, none, hρ, fun _ => .inr ⟨l', b, rfl, hb, hM⟩, fun b h => by cases h⟩
    · rw [if_neg ek] at hk2
      obtain ⟨hl, x, hx', hn, hq⟩ := H.own k' c hk2
      refine ⟨hl, x, hx', fun h0 => (hn h0).imp id fun ⟨l2, b2, h1, h2, h3⟩ => ⟨l2, b2, h1, h2, h3.kept (hoth b2 h3.lt (fun e => by subst e; exact ek (huni k' hl h2)))⟩, ?_⟩
      intro b2 hb2
      obtain ⟨hp, cs3, e3, hb3, hl3, hall⟩ := hq b2 hb2
      exact ⟨hp, cs3, e3, (hc b2 _ _ _ hb3).trans hb3, hl3, hall.mono fun _ _ h => h.mono hx⟩
/-- A new map. -/
theorem RH.mnew {s : Sg} {h : Heap} (H : RH s h) {kk : Nat} (hkk : ¬ s.used kk) (w' : World) (hw : w'.heap = s.w.heap.push (.map #[] 0)) (hM : MapI w' s.w.heap.size []) (hso : SameO s.w w') :
    ∃ s' : Sg, s'.w = w' ∧ Ext s s' ∧ RH s' (upd h kk [.mpc []]) ∧ RV s' (.map (some s.w.heap.size)) (.mp kk) ∧ (∀ k, s'.used k → s.used k ∨ k = kk) := by
  let s' : Sg := { w := w', ρ := fun k => if k = kk then some (none, 1) else s.ρ k, μ := fun k => if k = kk then some s.w.heap.size else s.μ k, prot := s.prot, base := s.base, fr := s.fr, used := fun k => s.used k ∨ k = kk, next := max s.next (kk + 1) }
  have hne : ∀ k, s.used k → k ≠ kk := fun k hk e => hkk (by rw [← e]; exact hk)
  have hρ : ∀ k, k ≠ kk → s'.ρ k = s.ρ k := fun k hk => by show (if k = kk then _ else _) = _; rw [if_neg hk]
  have hμ : ∀ k, k ≠ kk → s'.μ k = s.μ k := fun k hk => by show (if k = kk then _ else _) = _; rw [if_neg hk]
  have hρn : s'.ρ kk = some (none, 1) := by show (if kk = kk then _ else _) = _; rw [if_pos rfl]
  have hμn : s'.μ kk = some s.w.heap.size := by show (if kk = kk then _ else _) = _; rw [if_pos rfl]
  have hsz : w'.heap.size = s.w.heap.size + 1 := by rw [hw]; simp
  have hold : ∀ b, b < s.w.heap.size → w'.heap[b]? = s.w.heap[b]? := fun b hb => by rw [hw, Array.getElem?_push, if_neg (by omega)]
  have hltb : ∀ (b : Nat) (cs : Array Value) (e : Nat) (f : Nat × Nat), s.w.heap[b]? = some (.cells cs e f) → b < s.w.heap.size := by
    intro b cs e f hb
    rcases Nat.lt_or_ge b s.w.heap.size with h' | h'
    · exact h'
    · simp [Array.getElem?_eq_none h'] at hb
  have hx : Ext s s' := ⟨Nat.le_max_left _ _, fun _ h => .inl h, by show s.w.heap.size ≤ w'.heap.size; omega, fun b hb => ⟨hb, hold b (H.lt b hb)⟩, fun k x hk hx => by rw [hρ k (hne k hk)] at hx; exact hx, fun k b n cs e _ _ hb => ⟨cs, (hold b (hltb b _ _ _ hb)).trans hb, rfl⟩, hso, fun k hk => hμ k (hne k hk), rfl, fun b hb => ⟨hb, hold b (H.lt b (H.fp b hb).1)⟩⟩
  refine ⟨s', rfl, hx, ⟨fun b hb => by have := H.lt b hb; show b < w'.heap.size; omega, ?_, ?_, ?_, ?_, ?_, H.bp, H.fp⟩, .mp _ kk (.inr rfl) hμn, fun _ h => h⟩
  · intro k k' b n n' h1 h2
    by_cases e1 : k = kk <;> by_cases e2 : k' = kk
    · omega
    · subst e1; rw [hρn] at h1; injection h1 with h1; injection h1 with h1; cases h1
    · subst e2; rw [hρn] at h2; injection h2 with h2; injection h2 with h2; cases h2
    · rw [hρ k e1] at h1; rw [hρ k' e2] at h2; exact H.inj k k' b n n' h1 h2
  · intro k hk
    have hk2 : (if k = kk then some [.mpc []] else h k) = none := hk
    by_cases ek : k = kk
    · rw [if_pos ek] at hk2; cases hk2
    · rw [if_neg ek] at hk2; rw [hρ k ek]; exact H.dead k hk2
  · intro k hk
    show k < max s.next (kk + 1)
    rcases hk with hk | hk
    · have := H.bound k hk; omega
    · omega
  · intro k c hk
    have hk2 : (if k = kk then some [.mpc []] else h k) = some c := hk
    by_cases ek : k = kk
    · subst ek
      rw [if_pos rfl] at hk2
      injection hk2 with hk2; subst hk2
      exact ⟨.inr rfl, none, hρn, fun _ => .inr ⟨[], _, rfl, hμn, hM⟩, fun b h => by cases h⟩
    · rw [if_neg ek] at hk2
      obtain ⟨hl, x, hx', hn, hq⟩ := H.own k c hk2
      refine ⟨.inl hl, x, by rw [hρ k ek]; exact hx', fun h0 => (hn h0).imp id fun ⟨l2, b2, h1, h2, h3⟩ => ⟨l2, b2, h1, (hμ k ek).trans h2, h3.kept (hold b2 h3.lt)⟩, ?_⟩
      intro b2 hb2
      obtain ⟨hp, cs3, e3, hb3, hl3, hall⟩ := hq b2 hb2
      exact ⟨hp, cs3, e3, (hold b2 (hltb b2 _ _ _ hb3)).trans hb3, hl3, hall.mono fun _ _ h => h.mono hx⟩
  · intro k b hk hb
    by_cases ek : k = kk
    · subst ek
      rw [hμn] at hb; injection hb with hb; subst hb
      refine ⟨⟨by show _ < w'.heap.size; omega, hM.obj⟩, fun hp => absurd (H.lt _ hp) (by omega), fun k' hk' hb' => ?_⟩
      by_cases ek' : k' = k
      · exact ek'
      · rw [hμ k' ek'] at hb'
        have := (H.mu k' _ (hk'.resolve_right ek') hb').1.1
        omega
    · rw [hμ k ek] at hb
      obtain ⟨⟨h1, h1m⟩, h2, h3⟩ := H.mu k b (hk.resolve_right ek) hb
      refine ⟨⟨by show b < w'.heap.size; omega, by show ∃ es clock, w'.heap[b]? = _; rw [hold b h1]; exact h1m⟩, h2, fun k' hk' hb' => ?_⟩
      by_cases ek' : k' = kk
      · subst ek'
        rw [hμn] at hb'; injection hb' with hb'; omega
      · rw [hμ k' ek'] at hb'; exact h3 k' (hk'.resolve_right ek') hb'

theorem mapT_sp {P : Program} {t : Nat} (h : mapT P t = true) : ∃ k e, P.underlying t = some (.map k e) ∧ P.underlying k = some (.int .i64) ∧ P.underlying e = some .bool ∧ ∀ w : World, (zeroValue e).run P w = .ok (.bool false) w := by
  unfold mapT at h
  split at h
  · rename_i k e ht
    split at h
    · rename_i i hk he hi
      split at h
      · rename_i hz; exact ⟨k, e, ht, hk, he, fun w => by simp [zeroValue, typeInfo, hi, hz]⟩
      · cases h
    · cases h
  · cases h
theorem mapD_isMap (l : List Int) : Go.Maps.IsMap (mapD l) := by
  cases l with
  | nil => exact Go.Maps.isMap_empty
  | cons n l =>
    have : Go.Maps.IsMap (mapD l) := mapD_isMap l
    exact this.put _ _
theorem mapD_at (n : Int) : ∀ l : List Int, (mapD l).atKey (.int .i64 n) (.lit (.bool false)) = .lit (.bool (l.contains n))
  | [] => rfl
  | m :: l => by
    show ((mapD l).put (.int .i64 m) (.lit (.bool true))).atKey _ _ = _
    by_cases h : n = m
    · subst h
      rw [Go.Maps.atKey_put_same (mapD_isMap l) (by trivial)]
      simp
    · rw [Go.Maps.atKey_put_other (by intro he; injection he with _ he; exact h he), mapD_at n l]
      simp [h]
theorem wf_i64m {n : Int} (h : -9223372036854775808 ≤ n ∧ n ≤ 9223372036854775807) : (Lit.int .i64 n).wf = true := WalkArith.wf_i64 h

section
variable {P : Program} {s : Sg} {e : Look} {a : Act} {h h' : Heap} {o : Oper} {d : D} {kk : Nat}
theorem sim_mkmap {t : Nat} (ho : o.op = .makeMap t none) (ht : mapT P t = true) (H : RH s h) (hkk : ¬ s.used kk) (hev : evOp e h kk .mkmap = some (d, h')) : Good s kk ((execOp a.eval o).run P s.w) d h' := by
  simp only [evOp] at hev
  injection hev with hev; injection hev with h3 h4; subst h3; subst h4
  obtain ⟨k, el, _, hk, he, _⟩ := mapT_sp ht
  obtain ⟨s', hw, hx, H', hv, hu⟩ := H.mnew hkk (s.w.alloc (.map #[] 0)) rfl ⟨P, k, el, hk, he, World.ownsMap_made _ _ _ _⟩ ⟨rfl, rfl, rfl⟩
  refine ⟨_, s', .inl ?_, hx, H', hv, hu⟩
  rw [hw]
  simp [execOp, ho, Go.RowKit.run_makeMap]
theorem sim_mapHas {t : Nat} {x i : Operand} {y j : O} (ho : o.op = .lookup t x i false) (ht : mapT P t = true) (hcx : cO x = some y) (hci : cO i = some j) (H : RH s h) (E : RE s e a.tmps) (hev : evOp e h kk (.mapHas y j) = some (d, h')) : Good s kk ((execOp a.eval o).run P s.w) d h' := by
  simp only [evOp] at hev
  split at hev
  · rename_i k n h1 h2
    split at hev
    · rename_i l hl
      split at hev
      · rename_i hr
        injection hev with hev; injection hev with h3 h4; subst h3; subst h4
        obtain ⟨tk, te, hu, hk, he, hz⟩ := mapT_sp ht
        obtain ⟨_, b, hv, hb⟩ := (cO_sim hcx E h1).inv_mp
        obtain ⟨_, _, b2, hb2, hM⟩ := H.map hl
        rw [hb] at hb2; injection hb2 with hb2; subst hb2
        have hn := (cO_sim hci E h2).inv_int
        obtain ⟨v, ps, hrun, hR⟩ := (hM.at hk he).lookup (Go.Maps.int_keyed hk) hu (hz s.w) (plainElem_bool he false) (Go.Maps.keyOf_int_mk hk (wf_i64m hr))
        rw [mapD_at] at hR
        have hvb : v = .bool (l.contains n) := by
          unfold plainElem at hR
          rw [he] at hR
          cases v <;> simp at hR
          rw [hR.1]; simp
        subst hvb
        refine Good.same H ?_ (.pure (.bool _))
        simp [execOp, ho, hv, hn, hrun]
      · cases hev
    · cases hev
  · cases hev
theorem sim_mapPut {t : Nat} {x i v : Operand} {y j z : O} (ho : o.op = .mapUpdate t x i v) (ht : mapT P t = true) (hcx : cO x = some y) (hci : cO i = some j) (hcv : cO v = some z) (H : RH s h) (E : RE s e a.tmps) (hev : evOp e h kk (.mapPut y j z) = some (d, h')) : Good s kk ((execOp a.eval o).run P s.w) d h' := by
  simp only [evOp] at hev
  split at hev
  · rename_i k n h1 h2 h3
    split at hev
    · rename_i l hl
      split at hev
      · rename_i hr
        obtain ⟨hr1, hr2, hr3⟩ := hr
        injection hev with hev; injection hev with h4 h5; subst h4; subst h5
        obtain ⟨tk, te, hu, hk, he, hz⟩ := mapT_sp ht
        obtain ⟨_, b, hv, hb⟩ := (cO_sim hcx E h1).inv_mp
        obtain ⟨_, _, b2, hb2, hM⟩ := H.map hl
        rw [hb] at hb2; injection hb2 with hb2; subst hb2
        have hn := (cO_sim hci E h2).inv_int
        have hx := (cO_sim hcv E h3).inv_bool
        obtain ⟨w', hrun, hM', hg⟩ := (hM.at hk he).update (Go.Maps.int_keyed hk) hu (by unfold maxLen; omega) (Go.Maps.keyOf_int_mk hk (wf_i64m ⟨hr1, hr2⟩)) (plainElem_bool he true)
        obtain ⟨s', hw, hx', H', hus⟩ := H.mput hl hb w' (l' := n :: l) ⟨P, tk, te, hk, he, hM'⟩ hg.size (fun b' hlt hne => hg.block b' hlt (by simpa using hne)) ⟨hg.os, hg.tape, hg.output⟩
        refine ⟨undef, s', .inr ⟨?_, rfl⟩, hx', H', .pure (.undef _), fun k hk => .inl (by rw [hus] at hk; exact hk)⟩
        rw [hw]
        simp [execOp, ho, hv, hn, hx, hrun]
      · cases hev
    · cases hev
  · cases hev
end

section
variable {P : Program} {s : Sg} {e : Look} {a : Act} {h h' : Heap} {o : Oper} {ao : AOp} {d : D} {kk : Nat}

theorem op_sim (hc : cOp P o.op = some ao) (hnc : ∀ f l, ao ≠ .call f l) (H : RH s h) (hkk : ¬ s.used kk) (E : RE s e a.tmps) (hev : evOp e h kk ao = some (d, h')) : Good s kk ((execOp a.eval o).run P s.w) d h' := by
  cases hop : o.op with
  | move x => rw [hop] at hc; exact sim_move (.inl hop) hc H E hev
  | assign x => rw [hop] at hc; exact sim_move (.inr hop) hc H E hev
  | pick c x y => rw [hop] at hc; exact sim_pick hop hc H E hev
  | alloc t => rw [hop] at hc; exact sim_alloc hop hc H hkk hev
  | box t x => rw [hop] at hc; exact sim_box hop hc H hkk E hev
  | build t ps => rw [hop] at hc; exact sim_build hop hc H E hev
  | buildSlice t n ps => rw [hop] at hc; exact sim_buildS hop hc H hkk E hev
  | load t x => rw [hop] at hc; exact sim_load hop hc H E hev
  | store t x y => rw [hop] at hc; exact sim_store hop hc H E hev
  | nilCheck x => rw [hop] at hc; exact sim_nilck hop hc H E hev
  | binOp op t x y u => rw [hop] at hc; exact sim_bin hop hc H E hev
  | unOp op t x => rw [hop] at hc; exact sim_un hop hc H E hev
  | convert u t x => rw [hop] at hc; exact sim_convert hop hc H E hev
  | makeFunc f fst caps =>
    rw [hop] at hc
    cases f with
    | func f => exact sim_mkfn hop hc H E hev
    | _ => simp [cOp] at hc
  | makeSlice t x y => rw [hop] at hc; exact sim_mkslice hop hc H hkk E hev
  | slice t x lo hi mx =>
    rw [hop] at hc
    cases mx with
    | none =>
      cases lo with
      | none => exact sim_slice (.inl rfl) hop hc H E hev
      | some l =>
        cases hi with
        | none => exact sim_slice (.inr rfl) hop hc H E hev
        | some r => exact sim_sliceM hop hc H E hev
    | some m =>
      cases hi with
      | none => simp [cOp] at hc
      | some r => exact sim_slice3 hop hc H E hev
  | fieldAddr t x i => rw [hop] at hc; exact sim_faddr hop hc H E hev
  | field t x i => rw [hop] at hc; exact sim_field hop hc H E hev
  | indexAddr t x i => rw [hop] at hc; exact sim_iaddr hop hc H E hev
  | index t x i => rw [hop] at hc; exact sim_index hop hc H E hev
  | extract x i => rw [hop] at hc; exact sim_extract hop hc H E hev
  | makeMap t r =>
    rw [hop] at hc
    cases r with
    | none =>
      simp only [cOp] at hc
      split at hc
      · rename_i ht; injection hc with hc; subst hc; exact sim_mkmap hop ht H hkk hev
      · cases hc
    | some r => simp [cOp] at hc
  | lookup t x i ok =>
    rw [hop] at hc
    cases ok with
    | false =>
      simp only [cOp] at hc
      split at hc
      · rename_i ht
        split at hc
        · rename_i y j hx hi; injection hc with hc; subst hc; exact sim_mapHas hop ht hx hi H E hev
        · cases hc
      · cases hc
    | true => simp [cOp] at hc
  | mapUpdate t x i v =>
    rw [hop] at hc
    simp only [cOp] at hc
    split at hc
    · rename_i ht
      split at hc
      · rename_i y j z hx hi hv; injection hc with hc; subst hc; exact sim_mapPut hop ht hx hi hv H E hev
      · cases hc
    · cases hc
  | call c =>
    rw [hop] at hc
    simp only [cOp] at hc
    obtain ⟨callee, args, ats⟩ := c
    cases callee with
    | value f =>
      simp only [cCall] at hc
      split at hc
      · injection hc with hc; exact absurd hc.symm (hnc _ _)
      · cases hc
    | invoke r m => simp [cCall] at hc
    | builtin b =>
      cases b with
      | len => exact sim_len hop hc H E hev
      | append => exact sim_append hop hc H hkk E hev
      | copy => exact sim_copy hop hc H E hev
      | clear => exact sim_clear hop hc H E hev
      | max => exact sim_mima (mx := true) hop hc H E hev
      | min => exact sim_mima (mx := false) hop hc H E hev
      | _ => simp [cCall] at hc
  | _ => rw [hop] at hc; simp [cOp] at hc
end

/-! ### Contracts -/
def Callable (P : Program) (f : Nat) : Prop := ∀ args w, (callFunc f args).run P w = .ok (.enter f args) w

/-- Called with data 'ds' in a heap 'h', the function returns data and a heap that 'Q' holds of. -/
def Con (P : Program) (f : Nat) (ds : List D) (h : Heap) (Q : D → Heap → Prop) : Prop :=
  Callable P f ∧ ∀ (s : Sg) (args : Array Value), RH s h → All2 (RV s) args.toList ds →
    Calls P f args s.w fun e w' => ∃ v d h' s', e = .returned v ∧ s'.w = w' ∧ Ext s s' ∧ RH s' h' ∧ RV s' v d ∧ Q d h'

theorem Con.mono {P : Program} {f : Nat} {ds : List D} {h : Heap} {Q Q' : D → Heap → Prop} (hc : Con P f ds h Q) (hq : ∀ d h', Q d h' → Q' d h') : Con P f ds h Q' :=
  ⟨hc.1, fun s args H A => (hc.2 s args H A).mono fun _ _ ⟨v, d, h', s', h1, h2, h3, h4, h5, h6⟩ => ⟨v, d, h', s', h1, h2, h3, h4, h5, hq _ _ h6⟩⟩

/-! ### Instructions -/
def put (dst : Option Nat) (d : D) (e : Env) : Env := match dst with | some t => (t, d) :: e | none => e

/-- Does the operation make a block? -/
def makes : AOp → Bool
  | .alloc _ => true
  | .box _ => true
  | .buildS .. => true
  | .mkslice .. => true
  | .append .. => true
  | .mkmap => true
  | _ => false
theorem key_any {e : Look} {h : Heap} {op : AOp} (hm : makes op = false) (k k' : Nat) : evOp e h k op = evOp e h k' op := by
  cases op <;> first | rfl | (simp [makes] at hm)

/-- An empty slice of the caller's is compared with nil: the answer is open. -/
def eqN0 (op : AOp) (e : Look) : Prop := ∃ g x sz c, op = .eqN g x ∧ evO e x = some (.vs sz c 0)
def runIns (P : Program) (o : AIns) (e : Env) (h : Heap) (K : Env → Heap → Prop) : Prop :=
  match o.op with
  | .call f args => match evO (get e) f, evOs (get e) args with
    | some (.fn g fst caps), some ds => Con P g (fst ++ ds ++ caps) h (fun r h' => K (put o.dst r e) h')
    | _, _ => False
  | op => if makes op then ∀ k, h k = none → match evOp (get e) h k op with | some (d, h') => K (put o.dst d e) h' | none => False
    else match evOp (get e) h 0 op with | some (d, h') => K (put o.dst d e) h' | none => eqN0 op (get e) ∧ ∀ b, K (put o.dst (.bool b) e) h

def Wins (P : Program) (o : AIns) (e : Env) (h : Heap) (K : Env → Heap → Prop) : Prop :=
  match o.guard with
  | none => runIns P o e h K
  | some (t, want) => match get e t with
    | some (.bool b) => if b = want then runIns P o e h K else K (put o.dst (.tup []) e) h
    | some (.tup _) => K (put o.dst (.tup []) e) h
    | _ => False

def Wops (P : Program) : List AIns → Env → Heap → (Env → Heap → Prop) → Prop
  | [], e, h, K => K e h
  | o :: r, e, h, K => Wins P o e h fun e' h' => Wops P r e' h' K

def cGuard (all : List Oper) : Option (Nat × Bool) → Option (Option (Nat × Bool))
  | none => some none
  | some (j, w) => match all[j]? with
    | some o => (match o.dst with | some t => some (some (t, w)) | none => none)
    | none => none
def dstOk (nt : Nat) : Option Nat → Bool | some t => decide (t < nt) | none => true
def cIns (P : Program) (nt : Nat) (all : List Oper) (o : Oper) : Option AIns :=
  match cGuard all o.guard with
  | some g => if dstOk nt o.dst then some { dst := o.dst, op := (cOp P o.op).getD .bad, guard := g } else none
  | none => none
def cOps (P : Program) (nt : Nat) (all : List Oper) : List Oper → Option (List AIns)
  | [] => some []
  | o :: r => match cIns P nt all o, cOps P nt all r with | some i, some l => some (i :: l) | _, _ => none

/-- The state of a frame: what is known of it. -/
structure RS (nt : Nat) (s : Sg) (e : Env) (h : Heap) (a : Act) : Prop where
  heap : RH s h
  env : RE s (get e) a.tmps
  size : a.tmps.size = nt
  defers : a.defers = []

theorem put_sim {nt : Nat} {s : Sg} {e : Env} {h : Heap} {a : Act} (R : RS nt s e h a) {dst : Option Nat} (hd : dstOk nt dst = true) {s' : Sg} (hx : Ext s s') {h' : Heap} (H' : RH s' h') {v : Value} {d : D} (hv : RV s' v d) :
    RS nt s' (put dst d e) h' (a.put dst v) := by
  cases dst with
  | none => exact ⟨H', R.env.mono hx, R.size, R.defers⟩
  | some t =>
    simp [dstOk] at hd
    refine ⟨H', (R.env.mono hx).put (by rw [R.size]; exact hd) hv, ?_, R.defers⟩
    show (a.tmps.setIfInBounds t v).size = nt
    simpa using R.size

theorem tmps_get {s : Sg} {e : Look} {tmps : Array Value} (E : RE s e tmps) {t : Nat} {b : Bool} (h : e t = some (.bool b)) : tmps[t]? = some (.bool b) := by
  have := (E t _ h).inv_bool
  rw [Array.getD_eq_getD_getElem?] at this
  cases hg : tmps[t]? with
  | none => rw [hg] at this; simp [undef] at this
  | some v => rw [hg] at this; simp at this; rw [this]

theorem tmps_tup {s : Sg} {e : Look} {tmps : Array Value} (E : RE s e tmps) {t : Nat} {vs : List D} (h : e t = some (.tup vs)) : ∃ cs : Array Value, tmps[t]? = none ∨ tmps[t]? = some (.tuple cs) := by
  obtain ⟨cs, h1, _⟩ := (E t _ h).inv_tup
  rw [Array.getD_eq_getD_getElem?] at h1
  refine ⟨cs, ?_⟩
  cases hg : tmps[t]? with
  | none => exact .inl rfl
  | some v => rw [hg] at h1; simp at h1; rw [h1]; exact .inr rfl
theorem rv_undef {s : Sg} : RV s undef (.tup []) := .pure (.tup #[] [] rfl (fun i v d h => by simp at h))

theorem cOp_call {P : Program} {op : Op} {f : O} {args : List O} (h : cOp P op = some (.call f args)) : ∃ c, op = .call c ∧ cCall P c = some (.call f args) := by
  cases op
  case call c => exact ⟨c, rfl, h⟩
  case binOp op t x y u =>
    simp only [cOp, cBin] at h
    (repeat' split at h) <;> simp at h
  case makeFunc f a b =>
    cases f <;> simp only [cOp] at h <;> (repeat' split at h) <;> simp at h
  case slice t x lo hi mx =>
    cases mx <;> cases lo <;> cases hi <;> simp only [cOp] at h <;> (repeat' split at h) <;> simp at h
  case makeMap t r => cases r <;> simp only [cOp] at h <;> (repeat' split at h) <;> simp at h
  case lookup t x i ok => cases ok <;> simp only [cOp] at h <;> (repeat' split at h) <;> simp at h
  all_goals
    simp only [cOp] at h
    first
    | (simp at h; done)
    | ((repeat' split at h) <;> simp at h; done)

theorem cOp_eqN {P : Program} {op : Op} {g : Bool} {x : O} (h : cOp P op = some (.eqN g x)) : ∃ b t x y u, op = .binOp b t x y u := by
  cases op
  case binOp op t x y u => exact ⟨op, t, x, y, u, rfl⟩
  case call c =>
    obtain ⟨callee, a0, ats⟩ := c
    cases callee with
    | value f0 => simp only [cOp, cCall] at h; (repeat' split at h) <;> simp at h
    | invoke r m => simp [cOp, cCall] at h
    | builtin b => cases b <;> simp only [cOp, cCall] at h <;> (repeat' split at h) <;> simp at h
  case makeFunc f a b =>
    cases f <;> simp only [cOp] at h <;> (repeat' split at h) <;> simp at h
  case slice t x lo hi mx =>
    cases mx <;> cases lo <;> cases hi <;> simp only [cOp] at h <;> (repeat' split at h) <;> simp at h
  case makeMap t r => cases r <;> simp only [cOp] at h <;> (repeat' split at h) <;> simp at h
  case lookup t x i ok => cases ok <;> simp only [cOp] at h <;> (repeat' split at h) <;> simp at h
  all_goals
    simp only [cOp] at h
    first
    | (simp at h; done)
    | ((repeat' split at h) <;> simp at h; done)
theorem ins_sim {P : Program} {nt : Nat} {ops : Array Oper} {o : Oper} {i : AIns} (hi : cIns P nt ops.toList o = some i) {s : Sg} {e : Env} {h : Heap} {a : Act} (R : RS nt s e h a)
    {K : Env → Heap → Prop} (hw : Wins P i e h K) (next : Act → World → Prop) (Q : Exit → Act → World → Prop)
    (hK : ∀ s' e' h' a', Ext s s' → RS nt s' e' h' a' → K e' h' → next a' s'.w) :
    if Region.wanted o (yielded ops a.tmps) then o.wp P a s.w next Q else next (a.put o.dst undef) s.w := by
  unfold cIns at hi
  split at hi
  · rename_i g hg
    split at hi
    · rename_i hdst
      injection hi with hi; subst hi
      -- the operation
      have run : runIns P { dst := o.dst, op := (cOp P o.op).getD .bad, guard := g } e h K → o.wp P a s.w next Q := by
        cases hao : cOp P o.op with
        | none =>
          intro hr
          simp [runIns, makes, evOp] at hr
          obtain ⟨⟨_, _, _, _, h0, _⟩, _⟩ := hr
          cases h0
        | some ao =>
        simp only [Option.getD_some]
        intro hr
        unfold runIns at hr
        split at hr
        · rename_i f args hop
          simp only at hop
          subst hop
          split at hr
          · rename_i g' fst caps ds h1 h2
            obtain ⟨hcall, hcon⟩ := hr
            -- which operation of the model
            have hcase : ∃ f0 a0 ats, o.op = .call { callee := .value f0, args := a0, argTypes := ats } ∧ cO f0 = some f ∧ cOs a0.toList = some args := by
              obtain ⟨c, hop, hc⟩ := cOp_call hao
              obtain ⟨callee, a0, ats⟩ := c
              cases callee with
              | value f0 =>
                simp only [cCall] at hc
                split at hc
                · rename_i g l hg hl; injection hc with hc; injection hc with h3 h4; subst h3; subst h4; exact ⟨f0, a0, ats, hop, hg, hl⟩
                · cases hc
              | invoke r m => simp [cCall] at hc
              | builtin b => cases b <;> simp only [cCall] at hc <;> (repeat' split at hc) <;> simp at hc
            obtain ⟨f0, a0, ats, hop, hf0, ha0⟩ := hcase
            obtain ⟨as, bs, hv, has, hbs⟩ := (cO_sim hf0 R.env h1).inv_fn
            have hargs := cOs_sim ha0 R.env h2
            have hrun : (execOp a.eval o).run P s.w = .ok (.enter g' (as ++ a0.map a.eval ++ bs)) s.w := by
              simp only [execOp, hop, resolve, hv, Deferred.ofValue, pure_bind, invoke]
              exact hcall _ _
            have hall : All2 (RV s) (as ++ a0.map a.eval ++ bs).toList (fst ++ ds ++ caps) := by
              simpa using (has.append hargs).append hbs
            unfold Oper.wp
            rw [hrun]
            show Calls P g' _ s.w _
            refine (hcon s _ R.heap hall).mono ?_
            rintro e' w' ⟨v, d, h', s', rfl, rfl, hx, H', hvd, hq⟩
            exact hK s' _ h' _ hx (put_sim R hdst hx H' hvd) hq
          · exact hr.elim
        · rename_i hnc
          have hk : (match evOp (get e) h s.next ao with | some (d, h') => K (put o.dst d e) h' | none => False) ∨ (eqN0 ao (get e) ∧ ∀ b, K (put o.dst (.bool b) e) h) := by
            cases hmk : makes ao with
            | true => rw [hmk] at hr; exact .inl (hr s.next (R.heap.fresh R.heap.next_free))
            | false =>
              rw [hmk] at hr
              rw [key_any hmk s.next 0]
              simp only [Bool.false_eq_true, if_false] at hr
              split at hr
              · exact .inl hr
              · exact .inr hr
          rcases hk with hk | ⟨⟨g0, x0, sz, c, rfl, hx0⟩, hk⟩
          · split at hk
            · rename_i d h' hev
              obtain ⟨v, s', hrun, hx, H', hvd, _⟩ := op_sim hao (fun f l h => hnc f l h) R.heap R.heap.next_free R.env hev
              unfold Oper.wp
              rcases hrun with hrun | ⟨hrun, hv⟩
              · rw [hrun]; exact hK s' _ h' _ hx (put_sim R hdst hx H' hvd) hk
              · rw [hrun]; subst hv; exact hK s' _ h' _ hx (put_sim R hdst hx H' hvd) hk
            · exact hk.elim
          · obtain ⟨b0, t0, x1, y1, u1, hop⟩ := cOp_eqN hao
            obtain ⟨b, hrun⟩ := sim_eqN0 hop (by rw [← hop]; exact hao) R.env hx0
            unfold Oper.wp
            rw [hrun]
            exact hK s _ h _ (.refl _) (put_sim R hdst (.refl _) R.heap (.pure (.bool b))) (hk b)
      unfold Wins at hw
      unfold Region.wanted
      cases hgo : o.guard with
      | none =>
        rw [hgo] at hg
        simp [cGuard] at hg
        subst hg
        simpa using run hw
      | some jw =>
        obtain ⟨j, want⟩ := jw
        rw [hgo] at hg
        simp only [cGuard] at hg
        split at hg
        · rename_i oj hj
          split at hg
          · rename_i t ht
            injection hg with hg; subst hg
            simp only at hw
            split at hw
            · rename_i b hb
              have htm := tmps_get R.env hb
              have hj' : ops[j]? = some oj := by simpa using hj
              have hy : yielded ops a.tmps j = some b := by simp [yielded, hj', ht, htm]
              simp only [hy]
              by_cases hbw : b = want
              · rw [if_pos hbw] at hw
                subst hbw
                simpa using run hw
              · rw [if_neg hbw] at hw
                have : (some b == some want) = false := by simpa using hbw
                rw [this]
                simpa using hK s _ h _ (.refl s) (put_sim R hdst (.refl s) R.heap rv_undef) hw
            · rename_i vs hb
              have htm := tmps_tup R.env hb
              obtain ⟨cs, htm⟩ := htm
              have hj' : ops[j]? = some oj := by simpa using hj
              have hy : yielded ops a.tmps j = none := by
                rcases htm with htm | htm <;> simp [yielded, hj', ht, htm]
              simp only [hy]
              have : ((none : Option Bool) == some want) = false := by simp
              rw [this]
              simpa using hK s _ h _ (.refl s) (put_sim R hdst (.refl s) R.heap rv_undef) hw
            · exact hw.elim
          · cases hg
        · cases hg
    · cases hi
  · cases hi

end Go.AM
