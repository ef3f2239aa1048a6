/- The simulation of append and copy, second part; all operations together. Generic over the program. -/
import Derived.Test.YthblalidmmbcoaaAmJ
set_option linter.unusedSimpArgs false
set_option linter.unusedVariables false
namespace Go.AM

section
variable {P : Program} {s : Sg} {e : Look} {a : Act} {h h' : Heap} {o : Oper} {ao : AOp} {d : D} {kk : Nat}

theorem zeroOf_info {el : Nat} {z : List D} {i : TypeInfo} (hz : zeroOf P el = some z) (hi : P.info? el = some i) : ∃ zv, i.zero = some zv ∧ ofScalars zv.cells.toList = some z := by
  unfold zeroOf at hz
  rw [hi] at hz
  simp only at hz
  split at hz
  · rename_i zv h; exact ⟨zv, h, hz⟩
  · cases hz

theorem take_len_append {α : Type} (x y : List α) (n : Nat) (h : x.length = n) : (x ++ y).take n = x := by rw [List.take_append_of_le_length (by omega), List.take_of_length_le (by omega)]

/-- append, whatever is appended. -/
theorem appD_sim {t u el ty : Nat} {i : TypeInfo} {z : List D} (hu : P.underlying t = some (.slice el)) (hi : P.info? el = some i) (hz : zeroOf P el = some z) (hzl : z.length = i.size) (hint : ∀ k, P.underlying u ≠ some (.int k)) (hus : (P.underlying u).isSome)
    (hpos : 0 < i.size) (hby : 0 < i.bytes) (H : RH s h) {x y : D} {vx vy : Value} (hx : RV s vx x) (hy : RV s vy y) (hkk : ¬ s.used kk) (hev : appD h kk i.size i.bytes x y = some (d, h')) :
    ∃ v s', (Builtin.append_ #[t, u] ty #[vx, vy]).run P s.w = .ok v s'.w ∧ Ext s s' ∧ RH s' h' ∧ RV s' v d ∧ ∀ k, s'.used k → s.used k ∨ k = kk := by
  obtain ⟨zv, hzv, hzs⟩ := zeroOf_info hz hi
  have hzall := ofScalars_rp hzs s
  have hzsz : zv.cells.size = i.size := by have := hzall.1; simp at this; omega
  unfold appD at hev
  split at hev
  · cases hev
  · rename_i n hn
    split at hev
    · cases hev
    · rename_i new hs
      obtain ⟨hnl, arr, harr, hfirst⟩ := srcD_sim (P := P) H hy hs
      have hlen : (Builtin.lenOf vy).run P s.w = .ok n s.w := lenA_run hy hn s.w
      -- growth of a slice without cells
      have grow0 : ∀ ad, (n * i.bytes ≤ room) → n ≠ 0 → some (D.sl kk i.size 0 n, upd h kk new) = some (d, h') → vx = .slice ad 0 0 →
          ∃ v s', (Builtin.append_ #[t, u] ty #[vx, vy]).run P s.w = .ok v s'.w ∧ Ext s s' ∧ RH s' h' ∧ RV s' v d ∧ ∀ k, s'.used k → s.used k ∨ k = kk := by
        intro ad hroom hn0 heq hv
        injection heq with heq; injection heq with h5 h6; subst h5; subst h6; subst hv
        obtain ⟨c, w', hc, hw, hso, hrun⟩ := append_grow (P := P) (t := t) (u := u) (ty := ty) (ad := ad) (len := 0) (cap := 0) hu hi hzv hint hus hlen (fun w1 _ => firstCells_zero _ _ _ _ _) hfirst (by omega) hby (by simpa using hroom)
        have hrow : ((#[] ++ arr ++ Builtin.zeroCells zv.cells (c - (0 + n)) : Array Value).toList).take new.length = arr.toList := by
          rw [Array.toList_append, Array.toList_append]
          simpa using take_len_append arr.toList _ new.length harr.1
        have hrl : ((#[] ++ arr ++ Builtin.zeroCells zv.cells (c - (0 + n)) : Array Value).toList).length = c * i.size := by
          have h1 := harr.1
          have h2 := size_zeroCells zv.cells (c - n)
          have h3 : (c - n) * i.size = c * i.size - n * i.size := Nat.sub_mul _ _ _
          have h4 : n * i.size ≤ c * i.size := Nat.mul_le_mul_right _ (by omega)
          simp at h1 h2 ⊢
          rw [h2, hzsz]; omega
        obtain ⟨s', h3, h4, h5, _, h7, hus⟩ := new_block H hkk el (#[] ++ arr ++ Builtin.zeroCells zv.cells (c - (0 + n)) : Array Value).toList new (by rw [hrow]; exact harr) w' (by rw [Array.toArray_toList]; exact hw) hso
        refine ⟨_, s', by rw [h3]; exact hrun, h4, h5, ?_, hus⟩
        have hh := h7 i.size n c (by omega) (by rw [hnl]; exact Nat.mul_le_mul_right _ (by omega)) (by rw [hrl]; exact Nat.le_refl _)
        simpa using hh
      split at hev
      · split at hev
        · rename_i hn0
          injection hev with hev; injection hev with h5 h6; subst h5; subst h6; subst hn0
          have hv := hx.inv_nil; subst hv
          refine ⟨.slice none 0 0, s, ?_, .refl s, H, .pure .nil, fun _ h => .inl h⟩
          have := append_room (P := P) (t := t) (u := u) (ty := ty) (ad := none) (len := 0) (cap := 0) (w' := s.w) hu hi hint hus hlen (hfirst s.w rfl) (Nat.le_refl _) (by simp)
          simpa using this
        · rename_i hn0
          split at hev
          · rename_i hroom; exact grow0 none hroom hn0 hev hx.inv_nil
          · cases hev
      · split at hev
        · rename_i hn0
          injection hev with hev; injection hev with h5 h6; subst h5; subst h6; subst hn0
          obtain ⟨ad, hv⟩ := hx.inv_emp; subst hv
          refine ⟨.slice ad 0 0, s, ?_, .refl s, H, .pure (.emp _), fun _ h => .inl h⟩
          have hat : arr = #[] := by apply Array.ext'; have := harr.1; rw [hnl] at this; simp at this; simp [this]
          subst hat
          have := append_room (P := P) (t := t) (u := u) (ty := ty) (ad := ad) (len := 0) (cap := 0) (w' := s.w) hu hi hint hus hlen (hfirst s.w rfl) (Nat.le_refl _) (by cases ad <;> simp [storeCells])
          simpa using this
        · rename_i hn0
          obtain ⟨ad, hv⟩ := hx.inv_emp
          split at hev
          · rename_i hroom; exact grow0 ad hroom hn0 hev hv
          · cases hev
      · rename_i k sz' off len
        split at hev
        · rename_i hsz
          subst hsz
          split at hev
          · cases hev
          · rename_i c hk
            obtain ⟨ad, cap, hv, hlc, hcl, hq⟩ := sl_live H hx hk
            split at hev
            · rename_i hn0
              injection hev with hev; injection hev with h5 h6; subst h5; subst h6; subst hn0
              have hat : arr = #[] := by apply Array.ext'; have := harr.1; rw [hnl] at this; simp at this; simp [this]
              subst hat
              refine ⟨vx, s, ?_, .refl s, H, hx, fun _ h => .inl h⟩
              subst hv
              have := append_room (P := P) (t := t) (u := u) (ty := ty) (ad := ad) (len := len) (cap := cap) (w' := s.w) hu hi hint hus hlen (hfirst s.w rfl) (by omega) (by cases ad <;> simp [storeCells])
              simpa using this
            · rename_i hn0
              split at hev
              · rename_i hin
                injection hev with hev; injection hev with h5 h6; subst h5; subst h6
                have hln : (len + n) * i.size ≤ cap * i.size := by omega
                have hlncap : len + n ≤ cap := Nat.le_of_mul_le_mul_right hln hpos
                rcases hq with h0 | ⟨b, cs, e', hxk, rfl, hb, hs'⟩
                · omega
                · have hadd : (len + n) * i.size = len * i.size + n * i.size := Nat.add_mul _ _ _
                  obtain ⟨hst, s', hw, h4, h5, hρ, hnx⟩ := write_cells (P := P) H hk hxk hb harr (off := off + len * i.size) (by omega)
                  subst hv
                  have hrun := append_room (P := P) (t := t) (u := u) (ty := ty) (ad := some ⟨b, off, none⟩) (len := len) (cap := cap) hu hi hint hus hlen (hfirst s.w rfl) hlncap (by simp only [add_plain]; exact hst)
                  refine ⟨_, s', by rw [hw]; exact hrun, h4, h5, ?_, fun k hk => .inl (by rw [hnx] at hk; exact hk)⟩
                  have hkn := hx.inv_sl.1
                  refine .sl _ k i.size off (len + n) cap (by rw [hnx]; exact hkn) (by simp) hlncap ?_
                  intro x' m hx'
                  rw [hρ, hxk] at hx'
                  injection hx' with hx'; injection hx' with h7 h8
                  subst h7; subst h8
                  obtain ⟨cs2, hh2, hsz2⟩ := h4.blk k b _ cs e' hkn (by rw [hρ]; exact hxk) hb
                  exact ⟨by omega, .inr ⟨b, cs2, e', rfl, rfl, hh2, by omega⟩⟩
              · rename_i hnin
                split at hev
                · rename_i hcond
                  obtain ⟨hoff, hcl2, hroom⟩ := hcond
                  subst hoff
                  injection hev with hev; injection hev with h5 h6; subst h5; subst h6
                  have hadd : (len + n) * i.size = len * i.size + n * i.size := Nat.add_mul _ _ _
                  by_cases hfit : len + n ≤ cap
                  · -- there was room
                    rcases hq with h0 | ⟨b, cs, e', hxk, rfl, hb, hs'⟩
                    · omega
                    · obtain ⟨_, _, cs2, e2, hh2, hl2, hall⟩ := H.block hk hxk
                      rw [hb] at hh2
                      injection hh2 with hh2; injection hh2 with h3 h3'; subst h3; subst h3'
                      have hln : (len + n) * i.size ≤ cap * i.size := Nat.mul_le_mul_right _ hfit
                      have harl := harr.1
                      have hone : ∀ v ∈ arr.toList, v.oneCell' = true := by
                        intro v hv'
                        obtain ⟨j, hj⟩ := List.mem_iff_getElem?.1 hv'
                        have hlt : j < arr.toList.length := by
                          rcases Nat.lt_or_ge j arr.toList.length with h' | h'
                          · exact h'
                          · simp [List.getElem?_eq_none h'] at hj
                        exact (harr.2 j v _ hj (List.getElem?_eq_getElem (by omega))).2
                      have hst := run_storeCells_at P b (len * i.size) e' arr.toList 0 cs s.w hb (by omega) hone
                      subst hv
                      have hrun := append_room (P := P) (t := t) (u := u) (ty := ty) (ad := some ⟨b, 0, none⟩) (len := len) (cap := cap) hu hi hint hus hlen (hfirst s.w rfl) hfit (by simp only [add_plain, Nat.zero_add]; exact hst)
                      have hrow : ((cs.toList.take (len * i.size) ++ arr.toList ++ cs.toList.drop (len * i.size + arr.toList.length)).toArray.toList).take (c ++ new).length = cs.toList.take c.length ++ arr.toList := by
                        rw [← hcl2]
                        apply take_len_append
                        simp at harl ⊢; omega
                      obtain ⟨s', h3, h4, h5, h6, h7, hus⟩ := H.rekey hk hxk hb (cs' := (cs.toList.take (len * i.size) ++ arr.toList ++ cs.toList.drop (len * i.size + arr.toList.length)).toArray) (by simp at harl ⊢; omega) _ (setRow_size _ _ _) (setRow_heap _ _ _ _ _ _ hb)
                        (fun b' hne => setRow_other _ _ _ _ hne) kk hkk (c ++ new) (by simp; omega) (by rw [hrow]; exact hall.append harr) ⟨rfl, rfl, rfl⟩
                      refine ⟨_, s', by rw [h3]; simpa using hrun, h4, h5, ?_, hus⟩
                      refine .sl _ kk i.size 0 (len + n) cap h6 (by simp) hfit ?_
                      intro x' m hx'
                      rw [h7] at hx'
                      injection hx' with hx'; injection hx' with h8 h9
                      subst h8; subst h9
                      obtain ⟨cs9, h9, hsz9⟩ : ∃ cs9, s'.w.heap[b]? = some (.cells cs9 e' (0, 0)) ∧ cs9.size = cs.size := ⟨_, by rw [h3]; exact setRow_heap _ _ _ _ _ _ hb, by simp at harl ⊢; omega⟩
                      have hcn : (c ++ new).length = c.length + n * i.size := by simp [hnl]
                      exact ⟨by omega, .inr ⟨b, cs9, e', rfl, rfl, h9, by omega⟩⟩
                  · -- a new array
                    have hcells : ∃ old : Array Value, All2 (RC s) old.toList c ∧ ∀ w1 : World, w1.heap = s.w.heap → (Builtin.firstCells i.size len (.slice ad len cap)).run P w1 = .ok old w1 := by
                      subst hv
                      have hsrc : srcD h i.size len (.sl k i.size 0 len) = some c := by
                        simp only [srcD, hk]
                        rw [if_pos ⟨trivial, Nat.le_refl _⟩, if_pos (by omega), hcl2]
                        simp
                      obtain ⟨_, old, ho1, ho2⟩ := srcD_sim (P := P) H hx hsrc
                      exact ⟨old, ho1, ho2⟩
                    obtain ⟨old, hold1, hold2⟩ := hcells
                    subst hv
                    obtain ⟨cc, w', hc, hw, hso, hrun⟩ := append_grow (P := P) (t := t) (u := u) (ty := ty) hu hi hzv hint hus hlen hold2 hfirst (by omega) hby hroom
                    obtain ⟨s1, g1, g2, g3, g4⟩ := H.drop k
                    have hkk1 : ¬ s1.used kk := by rw [g4]; exact hkk
                    have hrow : ((old ++ arr ++ Builtin.zeroCells zv.cells (cc - (len + n)) : Array Value).toList).take (c ++ new).length = old.toList ++ arr.toList := by
                      rw [Array.toList_append, Array.toList_append]
                      apply take_len_append
                      have h1 := harr.1
                      have h2 := hold1.1
                      simp at h1 h2 ⊢; omega
                    have hrl : ((old ++ arr ++ Builtin.zeroCells zv.cells (cc - (len + n)) : Array Value).toList).length = cc * i.size := by
                      have h1 := harr.1
                      have h2 := hold1.1
                      have h3 := size_zeroCells zv.cells (cc - (len + n))
                      have h4 : (cc - (len + n)) * i.size = cc * i.size - (len + n) * i.size := Nat.sub_mul _ _ _
                      have h5 : (len + n) * i.size ≤ cc * i.size := Nat.mul_le_mul_right _ (by omega)
                      simp at h1 h2 h3 ⊢
                      rw [h3, hzsz]; omega
                    obtain ⟨s', h3, h4, h5, _, h7, hus⟩ := new_block g3 hkk1 el (old ++ arr ++ Builtin.zeroCells zv.cells (cc - (len + n)) : Array Value).toList (c ++ new) (by rw [hrow]; exact (hold1.append harr).mono fun _ _ h => h.mono g2) w' (by rw [Array.toArray_toList, g1]; exact hw) (by rw [g1]; exact hso)
                    refine ⟨_, s', by rw [h3]; exact hrun, g2.trans h4, h5, ?_, fun k hk => by rw [← g4]; exact hus k hk⟩
                    have hh := h7 i.size (len + n) cc hc (by simp; rw [hnl, ← hcl2, ← hadd]; exact Nat.mul_le_mul_right _ (by omega)) (by rw [hrl]; exact Nat.le_refl _)
                    rw [g1] at hh
                    exact hh
                · cases hev
        · cases hev
      · cases hev

theorem sim_append {args : Array Operand} {ats : Array TypeId} (ho : o.op = .call { callee := .builtin .append, args := args, argTypes := ats }) (hc : cCall P { callee := .builtin .append, args := args, argTypes := ats } = some ao)
    (H : RH s h) (hkk : ¬ s.used kk) (E : RE s e a.tmps) (hev : evOp e h kk ao = some (d, h')) : Good s kk ((execOp a.eval o).run P s.w) d h' := by
  simp only [cCall] at hc
  split at hc
  · rename_i t u x y ht hargs
    obtain rfl : ats = #[t, u] := by apply Array.ext'; simpa using ht
    obtain ⟨x0, y0, hx0, hxc, hyc⟩ := cOs_two hargs
    obtain rfl : args = #[x0, y0] := by apply Array.ext'; simpa using hx0
    have main : ∀ el (i : TypeInfo) z, P.underlying t = some (.slice el) → P.info? el = some i → zeroOf P el = some z → z.length = i.size → 0 < i.size ∧ 0 < i.bytes → (∀ k, P.underlying u ≠ some (.int k)) → (P.underlying u).isSome → ao = .append i.size i.bytes x y →
        Good s kk ((execOp a.eval o).run P s.w) d h' := by
      intro el i z hu hi hz hzl hpos hint hus h0
      subst h0
      simp only [evOp] at hev
      split at hev
      · rename_i dx dy h1 h2
        obtain ⟨v, s', hrun, h3, h4, h5, hus⟩ := appD_sim (P := P) (t := t) (u := u) (ty := o.type) hu hi hz hzl hint hus hpos.1 hpos.2 H (cO_sim hxc E h1) (cO_sim hyc E h2) hkk hev
        exact ⟨v, s', .inl (run_builtin ho (fun cs => rfl) (by simpa using hrun)), h3, h4, h5, hus⟩
      · cases hev
    split at hc
    · rename_i el el2 hu hu2
      split at hc
      · rename_i i hi
        split at hc
        · rename_i hpos
          split at hc
          · rename_i z hz
            split at hc
            · rename_i hzl
              injection hc with hc
              exact main el i z hu hi hz hzl hpos (fun k hk => by rw [hu2] at hk; cases hk) (by rw [hu2]; rfl) hc.symm
            · cases hc
          · cases hc
        · cases hc
      · cases hc
    · rename_i el hu hu2
      split at hc
      · rename_i i hi
        split at hc
        · rename_i hpos
          split at hc
          · rename_i z hz
            split at hc
            · rename_i hzl
              injection hc with hc
              exact main el i z hu hi hz hzl hpos (fun k hk => by rw [hu2] at hk; cases hk) (by rw [hu2]; rfl) hc.symm
            · cases hc
          · cases hc
        · cases hc
      · cases hc
    · cases hc
  · cases hc

theorem zeroCells_sim {s : Sg} {zv : Array Value} {z : List D} (hz : All2 (RC s) zv.toList z) (n : Nat) (hpos : 0 < z.length) : All2 (RC s) (Builtin.zeroCells zv n).toList (rep n z) := by
  have hsz : zv.size = z.length := by simpa using hz.1
  have h := zeros_sim (s := s) hz n n (Nat.le_refl _) hpos
  rw [List.take_of_length_le (by simp [rep_length])] at h
  unfold Builtin.zeroCells
  simp only [hsz] at h ⊢
  exact h
theorem sim_clear {args : Array Operand} {ats : Array TypeId} (ho : o.op = .call { callee := .builtin .clear, args := args, argTypes := ats }) (hc : cCall P { callee := .builtin .clear, args := args, argTypes := ats } = some ao)
    (H : RH s h) (E : RE s e a.tmps) (hev : evOp e h kk ao = some (d, h')) : Good s kk ((execOp a.eval o).run P s.w) d h' := by
  simp only [cCall] at hc
  split at hc
  · rename_i t x ht hargs
    obtain rfl : ats = #[t] := by apply Array.ext'; simpa using ht
    obtain ⟨x0, hx0, hxc⟩ := cOs_one hargs
    obtain rfl : args = #[x0] := by apply Array.ext'; simpa using hx0
    split at hc
    · rename_i el hu
      split at hc
      · rename_i sz z hsz hz
        split at hc
        · rename_i hpos
          obtain ⟨hzl, hpos⟩ := hpos
          injection hc with hc; subst hc
          simp only [evOp] at hev
          split at hev
          · rename_i k sz' off len h1
            have rx := cO_sim hxc E h1
            split at hev
            · rename_i c hk
              split at hev
              · rename_i hin
                obtain ⟨hsz', hin⟩ := hin
                subst hsz'
                injection hev with hev; injection hev with h5 h6; subst h5; subst h6
                obtain ⟨ad, cap, hv, hlc, hcl, hq⟩ := sl_live H rx hk
                obtain ⟨zv, hzv, hzs⟩ := zeroOf_run hz s.w
                have hzall := ofScalars_rp hzs s
                have hnew := zeroCells_sim hzall len (by omega)
                by_cases h0 : len = 0
                · subst h0
                  have hsp : upd h k (splice c off (rep 0 z)) = h := by
                    funext j
                    unfold upd splice
                    split
                    · rename_i hj; subst hj; simp [rep, hk]
                    · rfl
                  rw [hsp]
                  refine Good.same H (run_builtin ho (fun cs => rfl) (v := .tuple #[]) ?_) (.pure (.undef _))
                  simp [hv]
                  cases ad <;> simp [Builtin.clear_, run_underlying hu]
                · rcases hq with q2 | ⟨b, cs, e', hxk, rfl, hb, hs'⟩
                  · omega
                  · obtain ⟨hst, s', hw, h4, h5, hρ, hnx⟩ := write_cells (P := P) H hk hxk hb hnew (off := off) (by rw [rep_length, hzl]; exact hin)
                    refine ⟨.tuple #[], s', .inl ?_, h4, h5, .pure (.undef _), fun k hk => .inl (by rw [hnx] at hk; exact hk)⟩
                    rw [hw]
                    refine run_builtin ho (fun cs => rfl) (v := .tuple #[]) ?_
                    simp [hv]
                    obtain ⟨m, rfl⟩ : ∃ m, len = m + 1 := ⟨len - 1, by omega⟩
                    simp [Builtin.clear_, run_underlying hu, hzv, hst]
              · cases hev
            · cases hev
          · cases hev
        · cases hc
      · cases hc
    · cases hc
  · cases hc

theorem sim_copy {args : Array Operand} {ats : Array TypeId} (ho : o.op = .call { callee := .builtin .copy, args := args, argTypes := ats }) (hc : cCall P { callee := .builtin .copy, args := args, argTypes := ats } = some ao)
    (H : RH s h) (E : RE s e a.tmps) (hev : evOp e h kk ao = some (d, h')) : Good s kk ((execOp a.eval o).run P s.w) d h' := by
  simp only [cCall] at hc
  split at hc
  · rename_i t u x y ht hargs
    obtain rfl : ats = #[t, u] := by apply Array.ext'; simpa using ht
    obtain ⟨x0, y0, hx0, hxc, hyc⟩ := cOs_two hargs
    obtain rfl : args = #[x0, y0] := by apply Array.ext'; simpa using hx0
    split at hc
    · rename_i el hu
      split at hc
      · rename_i sz hsz
        split at hc
        · rename_i hpos
          injection hc with hc; subst hc
          simp only [evOp] at hev
          split at hev
          · rename_i dx dy h1 h2
            have rx := cO_sim hxc E h1
            have ry := cO_sim hyc E h2
            unfold copyD at hev
            split at hev
            · rename_i m n' hm hn'
              obtain ⟨ad, cap, hvx⟩ := lenD_sim rx hm
              have hlen := lenA_run (P := P) ry hn' s.w
              simp only at hev
              split at hev
              · cases hev
              · rename_i new hs
                obtain ⟨hnl, arr, harr, hfirst⟩ := srcD_sim (P := P) H ry hs
                have hmin : Nat.min n' m = min n' m := rfl
                have hrun : ∀ w', (match ad with | some q => storeCells q arr.toList | none => pure ()).run P s.w = .ok () w' → (Builtin.copy_ #[t, u] o.type #[a.eval x0, a.eval y0]).run P s.w = .ok (.int .i64 (min n' m : Nat)) w' := by
                  intro w' hst
                  have hf := hfirst s.w rfl
                  rw [hvx]
                  cases ad with
                  | none => simp at hst; subst hst; simp [Builtin.copy_, run_underlying hu, hlen, szOf_run hsz, hmin, hf, goInt]
                  | some q => simp at hst; simp [Builtin.copy_, run_underlying hu, hlen, szOf_run hsz, hmin, hf, hst, goInt]
                split at hev
                · injection hev with hev; injection hev with h5 h6; subst h5; subst h6
                  have hv := rx.inv_nil
                  rw [hvx] at hv; injection hv with h7 h8 h9; subst h7
                  refine Good.same H (run_builtin ho (fun cs => rfl) (v := .int .i64 (min n' m : Nat)) ?_) (.pure (.int _ _))
                  simpa using hrun s.w (by simp)
                · injection hev with hev; injection hev with h5 h6; subst h5; subst h6
                  obtain ⟨ad2, hv⟩ := rx.inv_emp
                  rw [hvx] at hv; injection hv with h7 h8 h9
                  have hat : arr = #[] := by apply Array.ext'; have := harr.1; rw [hnl, h8] at this; simp at this; simp [this]
                  refine Good.same H (run_builtin ho (fun cs => rfl) (v := .int .i64 (min n' m : Nat)) ?_) (.pure (.int _ _))
                  refine (by simpa using hrun s.w (by subst hat; cases ad <;> simp [storeCells]))
                · rename_i k sz' off len
                  split at hev
                  · rename_i hsz'
                    subst hsz'
                    split at hev
                    · rename_i c hk
                      split at hev
                      · rename_i hin
                        injection hev with hev; injection hev with h5 h6; subst h5; subst h6
                        simp [lenD] at hm
                        subst hm
                        obtain ⟨ad2, cap2, hv, hlc, hcl, hq⟩ := sl_live H rx hk
                        rw [hvx] at hv; injection hv with h7 h8 h9; subst h7; subst h9
                        have hle : min n' len * sz' ≤ len * sz' := Nat.mul_le_mul_right _ (Nat.min_le_right _ _)
                        rcases hq with h0 | ⟨b, cs, e', hxk, rfl, hb, hs'⟩
                        · obtain rfl : len = 0 := by omega
                          have hnew0 : new = [] := List.length_eq_zero_iff.1 (by rw [hnl]; simp)
                          have hat : arr = #[] := by apply Array.ext'; have := harr.1; rw [hnew0] at this; simp at this; simp [this]
                          have hsp : upd h k (splice c off new) = h := by
                            funext j
                            subst hnew0
                            unfold upd splice
                            split
                            · rename_i hj; subst hj; simp [hk]
                            · rfl
                          rw [hsp]
                          refine Good.same H (run_builtin ho (fun cs => rfl) (v := .int .i64 (min n' 0 : Nat)) ?_) (.pure (.int _ _))
                          simpa using hrun s.w (by subst hat; cases ad <;> simp [storeCells])
                        · obtain ⟨hst, s', hw, h4, h5, hρ, hnx⟩ := write_cells (P := P) H hk hxk hb harr (off := off) (by omega)
                          refine ⟨.int .i64 (min n' len : Nat), s', .inl ?_, h4, h5, .pure (.int _ _), fun k hk => .inl (by rw [hnx] at hk; exact hk)⟩
                          rw [hw]
                          refine run_builtin ho (fun cs => rfl) ?_
                          simpa using hrun _ (by simpa using hst)
                      · cases hev
                    · cases hev
                  · cases hev
                · cases hev
            · cases hev
          · cases hev
        · cases hc
      · cases hc
    · cases hc
  · cases hc

end
end Go.AM
