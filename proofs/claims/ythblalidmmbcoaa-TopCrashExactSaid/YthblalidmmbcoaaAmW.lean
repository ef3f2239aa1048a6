/- Slices that grow: what is appended to, in a block of its own or none. Generic over the program. -/
import Derived.Test.YthblalidmmbcoaaAmV
set_option linter.unusedSimpArgs false
set_option linter.unusedVariables false
namespace Go.AM
open Classical

/-- The datum is a slice of n elements that owns its cells. -/
def SlOwn (h : Heap) (d : D) (sz : Nat) (cells : List D) (n : Nat) : Prop :=
  cells.length = n * sz ∧ ((n = 0 ∧ (d = .nil ∨ d = .emp)) ∨ ∃ k, d = .sl k sz 0 n ∧ h k = some cells)
theorem SlOwn.nil {h : Heap} {sz : Nat} : SlOwn h .nil sz [] 0 := ⟨by simp, .inl ⟨rfl, .inl rfl⟩⟩
theorem SlOwn.emp {h : Heap} {sz : Nat} : SlOwn h .emp sz [] 0 := ⟨by simp, .inl ⟨rfl, .inr rfl⟩⟩
theorem SlOwn.sl {h : Heap} {k sz n : Nat} {cells : List D} (hk : h k = some cells) (hl : cells.length = n * sz) : SlOwn h (.sl k sz 0 n) sz cells n := ⟨hl, .inr ⟨k, rfl, hk⟩⟩
/-- Other blocks than that of the datum are as they were. -/
def Others (d : D) (h h' : Heap) : Prop := ∀ j c, h j = some c → (∀ sz off n, d ≠ .sl j sz off n) → h' j = some c

theorem SlOwn.len {h : Heap} {d : D} {sz n : Nat} {cells : List D} (ho : SlOwn h d sz cells n) : lenD d = some n := by
  obtain ⟨_, ⟨rfl, rfl | rfl⟩ | ⟨k, rfl, _⟩⟩ := ho <;> rfl

theorem append_own {h : Heap} {d y : D} {sz bytes n m key : Nat} {cells new : List D} (ho : SlOwn h d sz cells n) (hy : lenA y = some m) (hs : srcD h sz m y = some new) (hl : new.length = m * sz) (hsz : 0 < sz) (hr : (n + m) * bytes ≤ room) (hk : h key = none) :
    ∃ d' h', appD h key sz bytes d y = some (d', h') ∧ SlOwn h' d' sz (cells ++ new) (n + m) ∧ (∀ j c, h j = some c → (∀ sz off n, d ≠ .sl j sz off n) → h' j = some c) ∧ (∀ j, h j = none → j ≠ key → h' j = none) := by
  obtain ⟨hc, ⟨rfl, hd⟩ | ⟨k, rfl, hkc⟩⟩ := ho
  · have hc0 : cells = [] := by cases cells with | nil => rfl | cons _ _ => simp at hc
    subst hc0
    by_cases hm : m = 0
    · subst hm
      have hn : new = [] := by cases new with | nil => rfl | cons _ _ => simp at hl
      subst hn
      rcases hd with rfl | rfl
      · exact ⟨.nil, h, by simp [appD, hy, hs], SlOwn.nil, fun _ _ h1 _ => h1, fun _ h1 _ => h1⟩
      · exact ⟨.emp, h, by simp [appD, hy, hs], SlOwn.emp, fun _ _ h1 _ => h1, fun _ h1 _ => h1⟩
    · have hr' : m * bytes ≤ room := by simpa using hr
      have hso : SlOwn (upd h key new) (.sl key sz 0 m) sz ([] ++ new) (0 + m) := by
        rw [List.nil_append, Nat.zero_add]; exact SlOwn.sl upd_self hl
      have hoth : ∀ j c, h j = some c → upd h key new j = some c := fun j c hj => by rw [upd_ne (by rintro rfl; rw [hk] at hj; cases hj)]; exact hj
      have hnn : ∀ j, h j = none → j ≠ key → upd h key new j = none := fun j hj hjk => by rw [upd_ne hjk]; exact hj
      rcases hd with rfl | rfl
      · exact ⟨.sl key sz 0 m, _, by simp [appD, hy, hs, hm, hr'], hso, fun j c hj _ => hoth j c hj, hnn⟩
      · exact ⟨.sl key sz 0 m, _, by simp [appD, hy, hs, hm, hr'], hso, fun j c hj _ => hoth j c hj, hnn⟩
  · by_cases hm : m = 0
    · subst hm
      have hn : new = [] := by cases new with | nil => rfl | cons _ _ => simp at hl
      subst hn
      exact ⟨.sl k sz 0 n, h, by simp [appD, hy, hs, hkc], by rw [List.append_nil, Nat.add_zero]; exact SlOwn.sl hkc hc, fun _ _ h1 _ => h1, fun _ h1 _ => h1⟩
    · have hlt : ¬ ((n + m) * sz ≤ cells.length) := by
        rw [hc, Nat.add_mul]
        have : 0 < m * sz := Nat.mul_pos (by omega) hsz
        omega
      refine ⟨.sl key sz 0 (n + m), upd (del h k) key (cells ++ new), ?_, SlOwn.sl upd_self (by rw [List.length_append, hc, hl, Nat.add_mul]), ?_, ?_⟩
      · rw [hc] at hlt
        simp only [appD, hy, hs, if_true, hkc, if_neg hm, Nat.zero_add, hc, true_and, if_pos hr]
        rw [if_neg hlt]
      · intro j c hj hne
        rw [upd_ne (by rintro rfl; rw [hk] at hj; cases hj)]
        simp only [del]
        rw [if_neg (by rintro rfl; exact hne sz 0 n rfl)]
        exact hj
      · intro j hj hjk
        rw [upd_ne hjk]
        simp only [del]
        split
        · rfl
        · exact hj

section
variable {P : Program} {e : Env} {h : Heap} {r : List AIns} {K : Env → Heap → Prop} {t : Nat}
theorem s_app {sz bytes n m : Nat} {x y : O} {d dy : D} {cells new : List D} (h1 : evO (get e) x = some d) (h2 : evO (get e) y = some dy) (ho : SlOwn h d sz cells n) (hy : lenA dy = some m) (hs : srcD h sz m dy = some new) (hl : new.length = m * sz ∧ 0 < sz) (hr : (n + m) * bytes ≤ room)
    (hw : ∀ d' h', SlOwn h' d' sz (cells ++ new) (n + m) → (∀ j c, h j = some c → (∀ sz off n, d ≠ .sl j sz off n) → h' j = some c) → Wops P r ((t, d') :: e) h' K) : Wops P (⟨some t, .append sz bytes x y, none⟩ :: r) e h K :=
  s_append h1 h2 fun k hk => let ⟨d', h', h3, h4, h5, _⟩ := append_own ho hy hs hl.1 hl.2 hr hk; ⟨d', h', h3, hw d' h' h4 h5⟩
end

theorem Fin_so {rs : List ARes} {e : Env} {h : Heap} {d : D} {sz n : Nat} {cells : List D} {x : X} (hx : match x with | .exit _ => False | _ => True) (hd : resD rs (get e) h = some d) (ho : SlOwn h d sz cells n) (hs : cells.all scal = true) : Fin rs (.ow sz cells n) x ⟨e, h⟩ := by
  obtain ⟨hc, ⟨rfl, hd0⟩ | ⟨k, rfl, hkc⟩⟩ := ho
  · have hc0 : cells = [] := by cases cells with | nil => rfl | cons _ _ => simp at hc
    subst hc0
    rcases hd0 with rfl | rfl
    · exact ⟨hx, _, hd, Ex_nil⟩
    · exact ⟨hx, _, hd, Ex_emp⟩
  · exact ⟨hx, _, hd, Ex_own hkc hc hs⟩

theorem Fin_sot {rs : List ARes} {e : Env} {h : Heap} {d : D} {ds : List D} {sz n : Nat} {cells : List D} {x : X} (hx : match x with | .exit _ => False | _ => True) (hd : resD rs (get e) h = some (.tup (d :: ds))) (ho : SlOwn h d sz cells n) (hs : cells.all scal = true)
    (hf : ds.all (fun d => flat d && match d with | .ow _ _ _ => false | _ => true) = true) : Fin rs (.tup (.ow sz cells n :: ds)) x ⟨e, h⟩ := by
  have hfl : ∀ ko, All2 (ExC h ko) ds ds := by
    intro ko
    refine ⟨rfl, fun i a b ha hb => ?_⟩
    rw [ha] at hb; injection hb with hb; subst hb
    have := List.all_eq_true.1 hf a (List.mem_of_getElem? ha)
    simp only [Bool.and_eq_true] at this
    exact exc_v this.2 this.1
  have hno : nOw (.ow sz cells n :: ds) ≤ 1 := by
    have : nOw ds = 0 := by
      clear hd hfl
      induction ds with
      | nil => rfl
      | cons a r ih =>
        simp only [List.all_cons, Bool.and_eq_true] at hf
        simp only [nOw]
        rw [ih hf.2]
        cases a <;> simp [isOw] at hf ⊢
    simp [nOw, isOw, this]
  obtain ⟨hc, ⟨rfl, hd0⟩ | ⟨k, rfl, hkc⟩⟩ := ho
  · have hc0 : cells = [] := by cases cells with | nil => rfl | cons _ _ => simp at hc
    subst hc0
    rcases hd0 with rfl | rfl
    · exact ⟨hx, _, hd, Ex_tup none (by simp) (All2.cons exc_n (hfl _)) hno⟩
    · exact ⟨hx, _, hd, Ex_tup none (by simp) (All2.cons exc_e (hfl _)) hno⟩
  · exact ⟨hx, _, hd, Ex_tup (some k) (fun k' hk' => by injection hk' with hk'; subst hk'; exact ⟨_, hkc⟩) (All2.cons (exc_o hkc hc hs) (hfl _)) hno⟩

/-- An own slice of flat cells, read by value. -/
theorem Rd_so {h : Heap} {d : D} {sz n : Nat} {cells : List D} (ho : SlOwn h d sz cells n) (hs : cells.all scal = true) : Rd h d (.vs sz cells n) := by
  obtain ⟨hc, ⟨rfl, hd0⟩ | ⟨k, rfl, hkc⟩⟩ := ho
  · have hc0 : cells = [] := by cases cells with | nil => rfl | cons _ _ => simp at hc
    subst hc0
    rcases hd0 with rfl | rfl
    · exact Rd_nil
    · exact Rd_emp
  · exact Rd_sl0 hkc hs hc
theorem srcD_sl {h : Heap} {k sz n : Nat} {cells : List D} (hk : h k = some cells) (hl : cells.length = n * sz) : srcD h sz n (.sl k sz 0 n) = some cells := by
  simp only [srcD, hk, Nat.le_refl, and_self, if_true, Nat.zero_add, hl, List.drop_zero]
  rw [List.take_of_length_le (by omega)]
theorem srcD_vs {h : Heap} {sz n : Nat} {cells : List D} (hl : cells.length = n * sz) : srcD h sz n (.vs sz cells n) = some cells := by
  simp only [srcD, hl, Nat.le_refl, and_self, if_true]
  rw [List.take_of_length_le (by omega)]
theorem srcD_so {h : Heap} {d : D} {sz n : Nat} {cells : List D} (ho : SlOwn h d sz cells n) : lenA d = some n ∧ srcD h sz n d = some cells := by
  obtain ⟨hc, ⟨rfl, hd0⟩ | ⟨k, rfl, hkc⟩⟩ := ho
  · have hc0 : cells = [] := by cases cells with | nil => rfl | cons _ _ => simp at hc
    subst hc0
    rcases hd0 with rfl | rfl <;> exact ⟨rfl, rfl⟩
  · exact ⟨rfl, srcD_sl hkc hc⟩
theorem SlOwn.upd {h : Heap} {d : D} {sz n k : Nat} {cells c : List D} (ho : SlOwn h d sz cells n) (hk : h k = none) : SlOwn (upd h k c) d sz cells n := by
  obtain ⟨hc, h1 | ⟨k', rfl, hkc⟩⟩ := ho
  · exact ⟨hc, .inl h1⟩
  · exact ⟨hc, .inr ⟨k', rfl, by rw [upd_ne (by rintro rfl; rw [hk] at hkc; cases hkc)]; exact hkc⟩⟩
theorem room_n : room = 140737488355328 := by decide
theorem foldl_take {α β : Type} {f : β → α → β} {a : β} {l : List α} {i : Nat} (h : i < l.length) : (l.take (i + 1)).foldl f a = f ((l.take i).foldl f a) l[i] := by
  rw [List.take_succ_eq_append_getElem h, List.foldl_append]; rfl
theorem map_snoc {α : Type} {f : α → D} {l : List α} {x : α} {n : Nat} {h : Heap} {d : D} {sz : Nat} (ho : SlOwn h d sz (l.map f ++ [f x]) n) : SlOwn h d sz ((l ++ [x]).map f) n := by rw [List.map_append]; exact ho
theorem scal_i {k : IntKind} {l : List Int} : (l.map (D.int k)).all scal = true := by rw [List.all_eq_true]; intro a ha; obtain ⟨x, _, rfl⟩ := List.mem_map.1 ha; rfl
theorem scal_b {l : List Bool} : (l.map D.bool).all scal = true := by rw [List.all_eq_true]; intro a ha; obtain ⟨x, _, rfl⟩ := List.mem_map.1 ha; rfl
end Go.AM
