/- The simulation of single operations, fifth part: what makes memory and writes it. Generic over the program. -/
import Derived.Test.YthblalidmmbcoaaAmG
set_option linter.unusedSimpArgs false
set_option linter.unusedVariables false
namespace Go.AM

theorem length_splice {c x : List D} {off : Nat} (h : off + x.length ≤ c.length) : (splice c off x).length = c.length := by
  unfold splice; simp; omega

theorem All2.splice {R : Value → D → Prop} {xs vs : List Value} {ys new : List D} {n off : Nat} (h : All2 R (xs.take n) ys) (hn : ys.length = n) (hv : All2 R vs new) (hle : off + new.length ≤ n) :
    All2 R ((xs.take off ++ vs ++ xs.drop (off + vs.length)).take n) (splice ys off new) := by
  have hxs : n ≤ xs.length := by have := h.1; simp at this; omega
  have hvl := hv.1
  have e : (xs.take off ++ vs ++ xs.drop (off + vs.length)).take n = (xs.take n).take off ++ vs ++ (xs.take n).drop (off + vs.length) := by
    rw [List.take_append, List.take_append]
    have h1 : List.take n (List.take off xs) = (xs.take n).take off := by rw [List.take_take, List.take_take, Nat.min_comm]
    have h2 : List.take (n - (List.take off xs).length) vs = vs := by apply List.take_of_length_le; simp; omega
    have h3 : List.take (n - (List.take off xs ++ vs).length) (xs.drop (off + vs.length)) = (xs.take n).drop (off + vs.length) := by
      rw [List.drop_take]
      congr 1
      simp
      omega
    rw [h1, h2, h3]
  rw [e, hvl]
  unfold AM.splice
  exact ((h.take off).append hv).append (h.drop _)

theorem setRow_size (w : World) (g : Nat) (cs : Array Value) : (w.setRow g cs).heap.size = w.heap.size := by simp [World.setRow]
theorem setRow_other (w : World) (g : Nat) (cs : Array Value) (b : Nat) (h : b ≠ g) : (w.setRow g cs).heap[b]? = w.heap[b]? := by
  simp only [World.setRow]
  rw [Array.getElem?_modify]
  rw [if_neg (fun e => h e.symm)]

section
variable {P : Program} {s : Sg} {e : Look} {a : Act} {h h' : Heap} {o : Oper} {ao : AOp} {d : D} {kk : Nat}

/-- Cells stored into an own block. -/
theorem write_cells (H : RH s h) {k : Nat} {c : List D} (hk : h k = some c) {b n el : Nat} (hb : s.ρ k = some (some b, n)) {cs : Array Value} (hh : s.w.heap[b]? = some (.cells cs el (0, 0)))
    {off : Nat} {vs : List Value} {new : List D} (hv : All2 (RC s) vs new) (hle : off + new.length ≤ c.length) :
    (storeCells ⟨b, off, none⟩ vs).run P s.w = .ok () (s.w.setRow b (cs.toList.take off ++ vs ++ cs.toList.drop (off + vs.length)).toArray) ∧
    ∃ s' : Sg, s'.w = s.w.setRow b (cs.toList.take off ++ vs ++ cs.toList.drop (off + vs.length)).toArray ∧ Ext s s' ∧ RH s' (upd h k (splice c off new)) ∧ s'.ρ = s.ρ ∧ s'.used = s.used := by
  obtain ⟨hn, hnp, cs2, e2, hh2, hl, hall⟩ := H.block hk hb
  rw [hh] at hh2
  injection hh2 with hh2
  injection hh2 with h3 h4
  subst h3
  have hvl := hv.1
  have hone : ∀ v ∈ vs, v.oneCell' = true := by
    intro v hv'
    obtain ⟨i, hi⟩ := List.mem_iff_getElem?.1 hv'
    have hlt : i < vs.length := by
      rcases Nat.lt_or_ge i vs.length with h' | h'
      · exact h'
      · simp [List.getElem?_eq_none h'] at hi
    exact (hv.2 i v _ hi (List.getElem?_eq_getElem (by omega))).2
  constructor
  · have := run_storeCells_at P b off el vs 0 cs s.w hh (by omega) hone
    simpa using this
  · refine H.write hk hb hh (cs' := (cs.toList.take off ++ vs ++ cs.toList.drop (off + vs.length)).toArray) ?_ _ (setRow_size _ _ _) (setRow_heap _ _ _ _ _ _ hh) (fun b' hne => setRow_other _ _ _ _ hne) _ (length_splice hle) ?_ ⟨rfl, rfl, rfl⟩
    · simp; omega
    · simpa using All2.splice hall rfl hv hle

theorem sim_store {t : Nat} {x y : Operand} (ho : o.op = .store t x y) (hc : cOp P (.store t x y) = some ao) (H : RH s h) (E : RE s e a.tmps)
    (hev : evOp e h kk ao = some (d, h')) : Good s kk ((execOp a.eval o).run P s.w) d h' := by
  simp only [cOp] at hc
  split at hc
  · rename_i n x' y' hn hx hy
    injection hc with hc; subst hc
    simp only [evOp] at hev
    split at hev
    · rename_i k off new h1 h2
      split at hev
      · rename_i c hk
        split at hev
        · rename_i hb
          injection hev with hev; injection hev with h5 h6; subst h5; subst h6
          cases h3 : evO e y' with
          | none => rw [h3] at h2; cases h2
          | some dy =>
            rw [h3] at h2
            simp only [Option.bind_some] at h2
            have hnew := (cO_sim hy E h3).cells h2
            obtain ⟨_, b, hv, hq⟩ := (cO_sim hx E h1).inv_pt
            obtain ⟨_, xx, hxx, hx0, hbb⟩ := H.own k c hk
            have hxb := hq _ _ hxx
            subst hxb
            obtain ⟨_, cs, el, hh, _, _⟩ := hbb b rfl
            obtain ⟨hrun, s', hw, hx', hH, _, hus⟩ := write_cells (P := P) H hk hxx hh hnew (off := off) (by omega)
            refine ⟨undef, s', .inr ⟨?_, rfl⟩, hx', hH, .pure (.undef _), fun k hk => .inl (by rw [hus] at hk; exact hk)⟩
            have hsz : (a.eval y).cells.size = n := by have := hnew.1; simp at this; omega
            rw [hw]
            simp [execOp, ho, Instr.storeAt, hv, Instr.sureAddr, storeVar, szOf_run hn, hsz, hrun]
        · cases hev
      · cases hev
    · cases hev
  · cases hc

/-- A new block's value. -/
theorem new_block (H : RH s h) (hkk : ¬ s.used kk) (el : Nat) (row : List Value) (c : List D) (hc : All2 (RC s) (row.take c.length) c) (w' : World) (hw : w'.heap = s.w.heap.push (.cells row.toArray el (0, 0))) (hso : SameO s.w w') :
    ∃ s' : Sg, s'.w = w' ∧ Ext s s' ∧ RH s' (upd h kk c) ∧ (∀ off, RV s' (.pointer (some ⟨s.w.heap.size, off, none⟩)) (.pt kk off)) ∧
      (∀ sz len cap, len ≤ cap → c.length ≤ cap * sz → cap * sz ≤ row.length → RV s' (.slice (some ⟨s.w.heap.size, 0, none⟩) len cap) (.sl kk sz 0 len)) ∧ (∀ k, s'.used k → s.used k ∨ k = kk) := by
  obtain ⟨s', h1, h2, h3, h4, hus, h5, h6⟩ := H.alloc el row c hc kk hkk w' hw hso
  refine ⟨s', h1, h2, h3, ?_, ?_, hus⟩
  · intro off
    refine .pt _ _ _ h4 ?_
    intro x n hx
    rw [h5] at hx; injection hx with hx; injection hx with h7 h8; exact h7.symm
  · intro sz len cap h7 h8 h9
    refine .sl _ _ _ _ _ _ h4 (by simp) h7 ?_
    intro x n hx
    rw [h5] at hx; injection hx with hx; injection hx with h10 h11
    subst h10; subst h11
    exact ⟨by omega, .inr ⟨_, row.toArray, el, rfl, rfl, h6, by simpa using h9⟩⟩

theorem sim_alloc {t : Nat} (ho : o.op = .alloc t) (hc : cOp P (.alloc t) = some ao) (H : RH s h) (hkk : ¬ s.used kk) (hev : evOp e h kk ao = some (d, h')) : Good s kk ((execOp a.eval o).run P s.w) d h' := by
  simp only [cOp] at hc
  split at hc
  · rename_i n z hn hz
    injection hc with hc; subst hc
    simp only [evOp] at hev
    injection hev with hev; injection hev with h5 h6; subst h5; subst h6
    obtain ⟨v, hv, hzs⟩ := zeroOf_run hz s.w
    have hall := ofScalars_rp hzs s
    obtain ⟨s', h1, h2, h3, h4, _, hus⟩ := new_block H hkk t v.cells.toList z (by rw [← hall.1, List.take_length]; exact hall) { s.w with heap := s.w.heap.push (.cells v.cells t (0, 0)) } (by simp) ⟨rfl, rfl, rfl⟩
    refine ⟨_, s', .inl ?_, h2, h3, h4 0, hus⟩
    rw [h1]
    simp [execOp, ho, Instr.alloc, hv, newVar, newRow]
  · cases hc

theorem sim_box {t : Nat} {x : Operand} (ho : o.op = .box t x) (hc : cOp P (.box t x) = some ao) (H : RH s h) (hkk : ¬ s.used kk) (E : RE s e a.tmps) (hev : evOp e h kk ao = some (d, h')) :
    Good s kk ((execOp a.eval o).run P s.w) d h' := by
  simp only [cOp] at hc
  cases h1 : cO x with
  | none => rw [h1] at hc; cases hc
  | some y =>
    rw [h1] at hc; simp at hc; subst hc
    simp only [evOp] at hev
    cases h2 : evO e y with
    | none => rw [h2] at hev; cases hev
    | some dy =>
      rw [h2] at hev
      simp only [Option.bind_some] at hev
      split at hev
      · rename_i c hcc
        injection hev with hev; injection hev with h5 h6; subst h5; subst h6
        have hall := (cO_sim h1 E h2).cells hcc
        obtain ⟨s', h3, h4, h5, h6, _, hus⟩ := new_block H hkk t (a.eval x).cells.toList c (by rw [← hall.1, List.take_length]; exact hall) { s.w with heap := s.w.heap.push (.cells (a.eval x).cells t (0, 0)) } (by simp) ⟨rfl, rfl, rfl⟩
        refine ⟨_, s', .inl ?_, h4, h5, h6 0, hus⟩
        rw [h3]
        simp [execOp, ho, Instr.box, newVar, newRow]
      · cases hev

/-- A store of a part's cells, in the model's own words. -/
theorem fold_splice (cells : Array Value) (off : Nat) (vs : List Value) (hle : off + vs.length ≤ cells.size) :
    (vs.toArray.zipIdx.foldl (fun cs (c, j) => cs.setIfInBounds (off + j) c) cells).toList = cells.toList.take off ++ vs ++ cells.toList.drop (off + vs.length) := by
  rw [← Array.foldl_toList]
  have key : ∀ (vs : List Value) (i : Nat) (cells : Array Value), off + i + vs.length ≤ cells.size →
      ((vs.zipIdx i).foldl (fun (cs : Array Value) (p : Value × Nat) => cs.setIfInBounds (off + p.2) p.1) cells).toList = cells.toList.take (off + i) ++ vs ++ cells.toList.drop (off + i + vs.length) := by
    intro vs
    induction vs with
    | nil => intro i cells _; simp
    | cons v r ih =>
      intro i cells hle
      simp only [List.zipIdx_cons, List.foldl_cons]
      rw [ih (i + 1) _ (by simp at hle ⊢; omega)]
      simp only [Array.toList_setIfInBounds]
      have hlt : off + i < cells.toList.length := by simp at hle ⊢; omega
      rw [show off + (i + 1) = off + i + 1 by omega]
      rw [List.take_succ_eq_append_getElem (by simpa using hlt), List.getElem_set_self, List.take_set_of_le (by omega), List.drop_set_of_lt (by omega)]
      simp [Nat.add_assoc, Nat.add_comm 1]
  have := key vs 0 cells (by simpa using hle)
  simpa using this

theorem rep_length (n : Nat) (z : List D) : (rep n z).length = n * z.length := by simp [rep]

theorem rep_get (n : Nat) (z : List D) (hz : 0 < z.length) (i : Nat) (hi : i < n * z.length) : (rep n z)[i]? = z[i % z.length]? := by
  induction n generalizing i with
  | zero => simp at hi
  | succ n ih =>
    have e : rep (n + 1) z = z ++ rep n z := by simp [rep, List.replicate_succ]
    rw [e]
    by_cases h : i < z.length
    · rw [List.getElem?_append_left h, Nat.mod_eq_of_lt h]
    · rw [List.getElem?_append_right (by omega), ih _ (by rw [Nat.add_mul] at hi; omega)]
      rw [show i = (i - z.length) + z.length by omega, Nat.add_sub_cancel, Nat.add_mod_right]

/-- Zero cells, over and over. -/
theorem zeros_sim {zv : Array Value} {z : List D} (hz : All2 (RC s) zv.toList z) (n m : Nat) (hnm : n ≤ m) (hpos : 0 < z.length) :
    All2 (RC s) ((((Array.range (m * z.length)).map (zv[· % zv.size]!)).toList).take (rep n z).length) (rep n z) := by
  have hsz : zv.size = z.length := by simpa using hz.1
  have hle : n * z.length ≤ m * z.length := Nat.mul_le_mul_right _ hnm
  refine ⟨by rw [List.length_take]; apply Nat.min_eq_left; simp [rep_length]; exact hle, ?_⟩
  intro i v dd hv hd
  have hi : i < n * z.length := by
    rcases Nat.lt_or_ge i (rep n z).length with h' | h'
    · rwa [rep_length] at h'
    · simp [List.getElem?_eq_none h'] at hd
  rw [rep_get n z hpos i hi] at hd
  rw [List.getElem?_take, if_pos (by rw [rep_length]; exact hi)] at hv
  simp only [Array.getElem?_toList, Array.getElem?_map] at hv
  have hi2 : i < m * z.length := by omega
  rw [Array.getElem?_range] at hv
  rw [if_pos hi2] at hv
  simp only [Option.map_some] at hv
  injection hv with hv
  have hmod : i % z.length < z.length := Nat.mod_lt _ hpos
  refine hz.2 (i % z.length) v dd ?_ hd
  rw [← hv, hsz]
  have hb : i % z.length < zv.size := by omega
  simp [hb]

theorem sim_mkslice {t : Nat} {x y : Operand} (ho : o.op = .makeSlice t x y) (hc : cOp P (.makeSlice t x y) = some ao) (H : RH s h) (hkk : ¬ s.used kk) (E : RE s e a.tmps) (hev : evOp e h kk ao = some (d, h')) :
    Good s kk ((execOp a.eval o).run P s.w) d h' := by
  simp only [cOp] at hc
  split at hc
  · rename_i el hu
    split at hc
    · rename_i i z x' y' hi hz hx hy
      split at hc
      · rename_i hzl
        injection hc with hc; subst hc
        simp only [evOp] at hev
        split at hev
        · rename_i k1 n k2 c h1 h2
          split at hev
          · rename_i hb
            obtain ⟨_, hpos, hn0, hnc, hroom, hmax⟩ := hb
            injection hev with hev; injection hev with h5 h6; subst h5; subst h6
            have hlen := (cO_sim hx E h1).inv_int
            have hcap := (cO_sim hy E h2).inv_int
            obtain ⟨zv, hzv, hzs⟩ := zeroOf_run hz s.w
            have hzall := ofScalars_rp hzs s
            have hzsz : zv.cells.size = z.length := by simpa using hzall.1
            have wn : IntKind.i64.wrap n = n := IntWalk.i64_in _ (by constructor <;> omega)
            have wc : IntKind.i64.wrap c = c := IntWalk.i64_in _ (by constructor <;> omega)
            let row := ((Array.range (c.toNat * z.length)).map (zv.cells[· % zv.cells.size]!)).toList
            obtain ⟨s', h3, h4, h5, _, h7, hus⟩ := new_block H hkk el row (rep n.toNat z) (zeros_sim hzall n.toNat c.toNat (by omega) (by omega)) { s.w with heap := s.w.heap.push (.cells row.toArray el (0, 0)) } rfl ⟨rfl, rfl, rfl⟩
            have hrl : row.length = c.toNat * z.length := by simp [row]
            have hmn : n.toNat * z.length ≤ c.toNat * z.length := Nat.mul_le_mul_right _ (by omega)
            refine ⟨_, s', .inl ?_, h4, h5, h7 i.size n.toNat c.toNat (by omega) (by rw [rep_length, ← hzl]; exact hmn) (by rw [hrl, hzl]; exact Nat.le_refl _), hus⟩
            rw [h3]
            have hroom' : ¬ (i.bytes * c > 281474976710656) := by
              have : c * i.bytes ≤ (room : Int) := hroom
              rw [Int.mul_comm] at this
              simp [room] at this
              omega
            have hc0 : ¬ c < 0 := by omega
            have hn0' : ¬ n < 0 := by omega
            have hcn : ¬ c < n := by omega
            by_cases hcz : c.toNat * i.size = 0
            · have hc0' : c.toNat = 0 := by
                rcases Nat.mul_eq_zero.1 hcz with h | h
                · exact h
                · omega
              have hrow : row = [] := by simp [row, hc0']
              simp [execOp, ho, Instr.makeSlice, run_underlying hu, hlen, hcap, asInt, asIntOf, typeInfo, hi, wn, wc, hroom', hc0, hn0', hcn, sizeOf, hcz, newRow, hrow, hc0']
              congr 2
              apply Array.ext'
              simp
            · simp [execOp, ho, Instr.makeSlice, run_underlying hu, hlen, hcap, asInt, asIntOf, typeInfo, hi, wn, wc, hroom', hc0, hn0', hcn, sizeOf, hcz, newRow, hzv, row, hzl]
              congr 2
              apply Array.ext'
              simp
          · cases hev
        · cases hev
      · cases hc
    · cases hc
  · cases hc

end
end Go.AM
