import Derived.Test.YthblalidmmbcoaaD1qc7b422
import Derived.Test.YthblalidmmbcoaaAmZ3qbd265f
import Derived.Lib.AppendZerosOnto
import Derived.Lib.AppendZeros
import Derived.Lib.Overlaps
import Derived.Laws.Externs
import Derived.Laws.IdiomCopy
import Derived.Laws.NewBlocks
import Derived.Shelf.RegionOpenPlain
import Derived.WalkKit
import Derived.Lib.Walk
import Derived.Lib.SliceRun
section
/- min -/
/- A device: its data; the small functions; its check. -/
set_option linter.unusedSimpArgs false
set_option linter.unusedVariables false
namespace Go.Proofs.Ythblalidmmbcoaa
open Go.AM Classical
set_option maxRecDepth 100000
set_option maxHeartbeats 4000000
structure Rq where
  id : Int
  kind : Int
  block : Int
  data : Bs
structure Ca where
  block : Int
  data : Bs
structure Dv where
  depth : Int
  next : Int
  blocks : List Bs
  cache : List Ca
  queue : List Rq
def Rq.cells (q : Rq) : List D := [.int .i64 q.id, .int .i64 q.kind, .int .i64 q.block, bD q.data]
theorem Rq.cells_len (q : Rq) : q.cells.length = 4 := rfl
def Ca.cells (c : Ca) : List D := [.int .i64 c.block, bD c.data]
theorem Ca.cells_len (c : Ca) : c.cells.length = 2 := rfl
abbrev casD (C : List Ca) : D := .vs 2 (C.flatMap Ca.cells) C.length
abbrev rqsD (Q : List Rq) : D := .vs 4 (Q.flatMap Rq.cells) Q.length
abbrev dvL (d : Dv) : List D := [.int .i64 d.depth, .int .i64 d.next, bsD d.blocks, casD d.cache, rqsD d.queue]
abbrev dvD (d : Dv) : D := .agg (dvL d)
theorem rqr {l : List Rq} {i : Nat} (h : i < l.length) : ((l.flatMap Rq.cells).drop (i * 4)).take 4 = [.int .i64 l[i].id, .int .i64 l[i].kind, .int .i64 l[i].block, bD l[i].data] := fm_row Rq.cells_len h
theorem car {l : List Ca} {i : Nat} (h : i < l.length) : ((l.flatMap Ca.cells).drop (i * 2)).take 2 = [.int .i64 l[i].block, bD l[i].data] := fm_row Ca.cells_len h
theorem cas_len (l : List Ca) : (l.flatMap Ca.cells).length = l.length * 2 := fm_len Ca.cells_len l
theorem rqs_len (l : List Rq) : (l.flatMap Rq.cells).length = l.length * 4 := fm_len Rq.cells_len l
def rqOk (n : Nat) (q : Rq) : Prop := (q.kind = 1 ∨ q.kind = 2 ∨ q.kind = 3) ∧ (q.kind = 3 → q.block = 0) ∧ (q.kind ≠ 3 → 0 ≤ q.block ∧ q.block < n) ∧ (q.kind = 2 → q.data.length = 32) ∧ (q.kind ≠ 2 → q.data.length = 0)
def preC (l : List Ca) (i : Nat) : Int := if i = 0 then -1 else match l[i - 1]? with | some c => c.block | none => 0
def preQ (l : List Rq) (i : Nat) : Int := if i = 0 then -1 else match l[i - 1]? with | some c => c.id | none => 0
theorem preC_s {l : List Ca} {i : Nat} (h : i < l.length) : preC l (i + 1) = l[i].block := by
  unfold preC; rw [if_neg (by omega)]; show (match l[i]? with | some c => c.block | none => 0) = _; rw [List.getElem?_eq_getElem h]
theorem preQ_s {l : List Rq} {i : Nat} (h : i < l.length) : preQ l (i + 1) = l[i].id := by
  unfold preQ; rw [if_neg (by omega)]; show (match l[i]? with | some c => c.id | none => 0) = _; rw [List.getElem?_eq_getElem h]
structure DvOk (d : Dv) : Prop where
  depth : 1 ≤ d.depth ∧ d.depth ≤ 16
  next : 0 ≤ d.next ∧ d.next ≤ 1099511627776
  blocks : 1 ≤ d.blocks.length ∧ d.blocks.length ≤ 256
  page : ∀ b ∈ d.blocks, b.length = 32
  ord : ∀ i (h : i < d.cache.length), preC d.cache i < d.cache[i].block ∧ d.cache[i].block < d.blocks.length
  csmall : d.cache.length ≤ 256
  cpage : ∀ c ∈ d.cache, c.data.length = 32
  full : (d.queue.length : Int) ≤ d.depth
  req : ∀ q ∈ d.queue, rqOk d.blocks.length q
  qord : ∀ i (h : i < d.queue.length), preQ d.queue i < d.queue[i].id ∧ d.queue[i].id < d.next
theorem Rd_dv {h : Heap} {a b : Int} {k k' : IntKind} {s1 s2 s3 n1 n2 n3 : Nat} {c1 c2 c3 : List D} : Rd h (.agg [.int k a, .int k' b, .vs s1 c1 n1, .vs s2 c2 n2, .vs s3 c3 n3]) (.agg [.int k a, .int k' b, .vs s1 c1 n1, .vs s2 c2 n2, .vs s3 c3 n3]) := Rd_ag (All2.cons Rd_int (All2.cons Rd_int (All2.cons Rd_vs (All2.cons Rd_vs (All2.cons Rd_vs All2.nil)))))
theorem page_d (c : Bs) : PCon Try.prog 76 [bD c] (.bool (decide (c.length = 32))) := by
  refine A76p (by simp [A76]) ?_
  simp only [A76, argEnv]
  repeat' (first | (with_reducible first | refine W_seq ?_ | refine then_n ?_ | refine W_ret ?_) | ((with_reducible refine s_reg ?_); intro K hK) | ((with_reducible refine k_nil ?_); (with_reducible apply s_nil hK); (· exact nmX); clear hK; clear K) | ((with_reducible refine k_mv ?_); (refine s_mv rfl ?_)) | ((with_reducible refine k_len ?_); ((refine s_len rfl rfl ?_))) | ((with_reducible refine k_eql ?_); ((refine s_eql rfl rfl ?_))) | ((with_reducible refine k_br ?_); ((with_reducible apply Br_s <;> intro hbr))))
  all_goals first | exact Fin_bt trivial rfl (by omega) | exact Fin_bf trivial rfl (by omega)
theorem dPage_c (a : Int) : PCon Try.prog 55 [.int .u8 a] (.ow 1 ((List.replicate 32 a).map (.int .u8)) 32) := by
  refine A55p (by simp [A55]) ?_
  simp only [A55, argEnv]
  repeat' (first | (with_reducible first | refine W_seq ?_ | refine then_n ?_ | refine W_block ?_) | ((with_reducible refine s_reg ?_); intro K hK) | ((with_reducible refine k_nil ?_); (with_reducible apply s_nil hK); (· exact nmX); clear hK; clear K) | ((with_reducible refine k_mv ?_); (refine s_mv rfl ?_)))
  refine W_for 32 (fun i st => ∃ h' d, st = ⟨[(0, .int .u8 a), (3, d), (4, .int .i64 i)], h'⟩ ∧ SlOwn h' d 1 ((List.replicate i a).map (.int .u8)) i) ⟨_, _, rfl, SlOwn.nil⟩ ?_ ?_
  · rintro i e' h' hi ⟨h1, d, he, ho⟩
    cases he
    have hl : ((List.replicate i a).map (D.int .u8)).length = i := by simp
    repeat' (first | (with_reducible first | refine W_seq ?_ | refine then_n ?_ | refine W_block ?_ | refine blk_n ?_ | refine W_skip ?_) | ((with_reducible refine s_reg ?_); intro K hK) | ((with_reducible refine k_nil ?_); (with_reducible apply s_nil hK); (· exact nmX); clear hK; clear K) | ((with_reducible refine k_cond ?_); (((with_reducible apply s_condT); (· rfl); (· exact nmX)))) | ((with_reducible refine k_mv ?_); (refine s_mv rfl ?_)) | ((with_reducible refine k_lss ?_); (refine s_lss rfl rfl ?_)) | ((with_reducible refine k_add ?_); ((with_reducible apply s_add); (· rfl); (· rfl))) | ((with_reducible refine k_buildS (dst := some 11) ?_); ((with_reducible apply s_buildS); (· rfl); (· (exact ⟨rfl, by decide⟩)); (· ((simp only [fillB, rep, splice, List.reduceReplicate, List.flatten_cons, List.flatten_nil, List.cons_append, List.nil_append, List.append_nil, List.length_cons, List.length_nil, Nat.reduceAdd, Nat.reduceMul, Nat.reduceLeDiff, Nat.reduceEqDiff, eq_self, Nat.le_refl, Nat.zero_add, and_self, and_true, true_and, if_true, List.take_zero, List.take_succ_cons, List.drop_zero, List.drop_succ_cons, List.drop_nil, List.take_nil]; rfl))); intro k11 hk11; (try simp only [upd_none] at hk11))) | ((with_reducible refine k_append (dst := some 12) ?_); ((with_reducible apply s_app); (· rfl); (· rfl); (· first | ((repeat' (first | assumption | (with_reducible apply SlOwn.upd))); done)); (· rfl); (· first | exact srcD_sl upd_self rfl); (· exact ⟨by rfl, by decide⟩); (· first | (rw [room_n]; omega)); intro da12 ha12 hso12 hoth12)) | ((with_reducible refine k_br ?_); ((refine Br_t (by omega) ?_))) | (((with_reducible apply q_eqI)); (exact nuI)))
    all_goals first | (exfalso; omega) | skip
    refine ⟨_, _, rfl, ?_⟩
    have e1 : (List.replicate (i + 1) a).map (D.int .u8) = (List.replicate i a).map (.int .u8) ++ [.int .u8 a] := by rw [List.replicate_succ', List.map_append]; rfl
    rw [e1]
    assumption
  · rintro e' h' ⟨h1, d, he, ho⟩
    cases he
    repeat' (first | (with_reducible first | refine W_seq ?_ | refine then_n ?_ | refine blk_e ?_ | refine W_ret ?_ | refine W_exit ?_ | refine then_e ?_) | ((with_reducible refine s_reg ?_); intro K hK) | ((with_reducible refine k_nil ?_); (with_reducible apply s_nil hK); (· exact nmX); clear hK; clear K) | ((with_reducible refine k_cond ?_); (((with_reducible apply s_condF); (· rfl); (· exact nmX)))) | ((with_reducible refine k_mv ?_); (refine s_mv rfl ?_)) | ((with_reducible refine k_lss ?_); (refine s_lss rfl rfl ?_)) | ((with_reducible refine k_br ?_); ((refine Br_f (by omega) ?_))))
    all_goals first | (exfalso; omega) | skip
    exact Fin_so trivial rfl (by assumption) (bD_scal _)
theorem request_d (d : Dv) (q : Rq) (hq : rqOk d.blocks.length q) : PCon Try.prog 72 [dvD d, .agg q.cells] (.int .i64 0) := by
  refine A72p (by simp [A72]) ?_
  obtain ⟨id, kind, block, data⟩ := q
  obtain ⟨h1, h2, h3, h4, h5⟩ := hq
  dsimp only at h1 h2 h3 h4 h5
  have c1 := page_d data
  simp only [A72, argEnv, Rq.cells]
  rcases h1 with rfl | rfl | rfl
  · have h3 := h3 (by omega)
    have h5 := h5 (by omega)
    repeat' (first | (with_reducible first | refine W_seq ?_ | refine then_n ?_ | refine W_block ?_ | refine blk_n ?_ | refine W_skip ?_ | refine W_ret ?_) | ((with_reducible refine s_reg ?_); intro K hK) | ((with_reducible refine k_nil ?_); (with_reducible apply s_nil hK); (· exact nmX); clear hK; clear K) | ((with_reducible refine k_cond ?_); (first | ((with_reducible apply s_condT); (· rfl); (· exact nmX)) | ((with_reducible apply s_condF); (· rfl); (· exact nmX)))) | ((with_reducible refine k_guard ?_); (first | (refine s_gt rfl ?_) | (refine s_gf1 rfl ?_))) | ((with_reducible refine k_mv ?_); (refine s_mv rfl ?_)) | ((with_reducible refine k_len ?_); ((refine s_len rfl rfl ?_))) | ((with_reducible refine k_pick ?_); (first | (refine s_pickT rfl rfl ?_) | (refine s_pickF rfl rfl ?_))) | ((with_reducible refine k_eql ?_); ((refine s_eql rfl rfl ?_))) | ((with_reducible refine k_neq ?_); ((refine s_neq rfl rfl ?_))) | ((with_reducible refine k_lss ?_); (refine s_lss rfl rfl ?_)) | ((with_reducible refine k_geq ?_); (refine s_geq rfl rfl ?_)) | ((with_reducible refine k_load ?_); (((with_reducible apply s_loadP); (· rfl); (· (exact hpX))))) | ((with_reducible refine k_faddr ?_); (((with_reducible apply s_faddrP); (· rfl); (· rfl)))) | ((with_reducible refine k_box (dst := some 2) ?_); ((with_reducible apply s_box); (· rfl); (· rfl); intro k2 hk2; (try simp only [upd_none] at hk2))) | ((with_reducible refine k_box (dst := some 3) ?_); ((with_reducible apply s_box); (· rfl); (· rfl); intro k3 hk3; (try simp only [upd_none] at hk3))) | ((with_reducible refine k_br ?_); (first | (refine Br_t (by first | with_reducible rfl | omega) ?_) | (refine Br_f (by omega) ?_))) | (((with_reducible apply q_eqO)); (exact liO)))
    all_goals first | (exfalso; omega) | (first | exact Fin_flat trivial rfl rfl | (refine Fin_tup trivial rfl ?_ (Nat.le_of_ble_eq_true rfl); (repeat (first | exact All2.nil | (apply All2.cons; (· first | exact exc_n | exact exc_e | exact exc_v rfl rfl | exact exc_o upd_self rfl rfl)))); done) | (refine Fin_own trivial rfl upd_self ?_ (Nat.le_of_ble_eq_true rfl); (repeat (first | exact All2.nil | (apply All2.cons; (· first | exact exc_n | exact exc_e | exact exc_v rfl rfl | exact exc_o upd_self rfl rfl)))); done) | exact Fin_nil trivial rfl | exact Fin_sl trivial rfl upd_self rfl rfl)
  · have h3 := h3 (by omega)
    rw [decide_eq_true (h4 rfl)] at c1
    repeat' (first | (with_reducible first | refine W_seq ?_ | refine then_n ?_ | refine W_block ?_ | refine blk_n ?_ | refine W_skip ?_ | refine W_ret ?_) | ((with_reducible refine s_reg ?_); intro K hK) | ((with_reducible refine k_nil ?_); (with_reducible apply s_nil hK); (· exact nmX); clear hK; clear K) | ((with_reducible refine k_cond ?_); (first | ((with_reducible apply s_condT); (· rfl); (· exact nmX)) | ((with_reducible apply s_condF); (· rfl); (· exact nmX)))) | ((with_reducible refine k_guard ?_); (first | (refine s_gt rfl ?_) | (refine s_gf1 rfl ?_))) | ((with_reducible refine k_mv ?_); (refine s_mv rfl ?_)) | ((with_reducible refine k_len ?_); ((refine s_len rfl rfl ?_))) | ((with_reducible refine k_pick ?_); (first | (refine s_pickT rfl rfl ?_) | (refine s_pickF rfl rfl ?_))) | ((with_reducible refine k_not ?_); (refine s_not rfl (by exact Bool.not_true) ?_)) | ((with_reducible refine k_eql ?_); ((refine s_eql rfl rfl ?_))) | ((with_reducible refine k_neq ?_); ((refine s_neq rfl rfl ?_))) | ((with_reducible refine k_lss ?_); (refine s_lss rfl rfl ?_)) | ((with_reducible refine k_geq ?_); (refine s_geq rfl rfl ?_)) | ((with_reducible refine k_load ?_); (((with_reducible apply s_loadP); (· rfl); (· (exact hpX))))) | ((with_reducible refine k_faddr ?_); (((with_reducible apply s_faddrP); (· rfl); (· rfl)))) | ((with_reducible refine k_box (dst := some 2) ?_); ((with_reducible apply s_box); (· rfl); (· rfl); intro k2 hk2; (try simp only [upd_none] at hk2))) | ((with_reducible refine k_box (dst := some 3) ?_); ((with_reducible apply s_box); (· rfl); (· rfl); intro k3 hk3; (try simp only [upd_none] at hk3))) | ((with_reducible refine k_callF ?_); (((with_reducible apply s_call1); (· rfl)))) | ((with_reducible refine k_con ?_); (((with_reducible apply con_val (c1)); (· (exact agX)); (· rfl); (· exact fun _ => rfl)))) | ((with_reducible refine k_br ?_); (first | (refine Br_t (by with_reducible rfl) ?_) | (refine Br_f (by omega) ?_))) | (((with_reducible apply q_eqO)); (exact liO)))
    all_goals first | (exfalso; omega) | (first | exact Fin_flat trivial rfl rfl | (refine Fin_tup trivial rfl ?_ (Nat.le_of_ble_eq_true rfl); (repeat (first | exact All2.nil | (apply All2.cons; (· first | exact exc_n | exact exc_e | exact exc_v rfl rfl | exact exc_o upd_self rfl rfl)))); done) | (refine Fin_own trivial rfl upd_self ?_ (Nat.le_of_ble_eq_true rfl); (repeat (first | exact All2.nil | (apply All2.cons; (· first | exact exc_n | exact exc_e | exact exc_v rfl rfl | exact exc_o upd_self rfl rfl)))); done) | exact Fin_nil trivial rfl | exact Fin_sl trivial rfl upd_self rfl rfl)
  · have h2 := h2 rfl
    have h5 := h5 (by omega)
    subst h2
    repeat' (first | (with_reducible first | refine W_seq ?_ | refine then_n ?_ | refine W_block ?_ | refine blk_n ?_ | refine W_skip ?_ | refine W_ret ?_) | ((with_reducible refine s_reg ?_); intro K hK) | ((with_reducible refine k_nil ?_); (with_reducible apply s_nil hK); (· exact nmX); clear hK; clear K) | ((with_reducible refine k_cond ?_); (first | ((with_reducible apply s_condT); (· rfl); (· exact nmX)) | ((with_reducible apply s_condF); (· rfl); (· exact nmX)))) | ((with_reducible refine k_guard ?_); (first | (refine s_gt rfl ?_) | (refine s_gf1 rfl ?_))) | ((with_reducible refine k_mv ?_); (refine s_mv rfl ?_)) | ((with_reducible refine k_len ?_); ((refine s_len rfl rfl ?_))) | ((with_reducible refine k_pick ?_); (first | (refine s_pickT rfl rfl ?_) | (refine s_pickF rfl rfl ?_))) | ((with_reducible refine k_eql ?_); ((refine s_eql rfl rfl ?_))) | ((with_reducible refine k_neq ?_); ((refine s_neq rfl rfl ?_))) | ((with_reducible refine k_load ?_); (((with_reducible apply s_loadP); (· rfl); (· (exact hpX))))) | ((with_reducible refine k_faddr ?_); (((with_reducible apply s_faddrP); (· rfl); (· rfl)))) | ((with_reducible refine k_box (dst := some 2) ?_); ((with_reducible apply s_box); (· rfl); (· rfl); intro k2 hk2; (try simp only [upd_none] at hk2))) | ((with_reducible refine k_box (dst := some 3) ?_); ((with_reducible apply s_box); (· rfl); (· rfl); intro k3 hk3; (try simp only [upd_none] at hk3))) | ((with_reducible refine k_br ?_); (first | (refine Br_t (by first | with_reducible rfl | omega) ?_) | (refine Br_f (by omega) ?_))) | (((with_reducible apply q_eqO)); (exact liO)))
    all_goals first | (exfalso; omega) | (first | exact Fin_flat trivial rfl rfl | (refine Fin_tup trivial rfl ?_ (Nat.le_of_ble_eq_true rfl); (repeat (first | exact All2.nil | (apply All2.cons; (· first | exact exc_n | exact exc_e | exact exc_v rfl rfl | exact exc_o upd_self rfl rfl)))); done) | (refine Fin_own trivial rfl upd_self ?_ (Nat.le_of_ble_eq_true rfl); (repeat (first | exact All2.nil | (apply All2.cons; (· first | exact exc_n | exact exc_e | exact exc_v rfl rfl | exact exc_o upd_self rfl rfl)))); done) | exact Fin_nil trivial rfl | exact Fin_sl trivial rfl upd_self rfl rfl)
theorem dcheck_d (d : Dv) (ok : DvOk d) : PCon Try.prog 60 [dvD d] (.int .i64 0) := by
  refine A60p (by simp [A60]) ?_
  have hB := bs_len d.blocks
  have hC := cas_len d.cache
  have hQ := rqs_len d.queue
  obtain ⟨k1, k2, k3, k4, k5, k55, k6, k7, k8, k9⟩ := ok
  have hrq : ∀ i (h : i < d.queue.length), PCon Try.prog 72 [dvD d, .agg d.queue[i].cells] (.int .i64 0) := fun i h => request_d d _ (k8 _ (List.getElem_mem h))
  obtain ⟨depth, next, B, C, Q⟩ := d
  dsimp only at *
  simp only [A60, argEnv]
  repeat' (first | (with_reducible first | refine W_seq ?_ | refine then_n ?_ | refine W_block ?_ | refine W_skip ?_) | ((with_reducible refine s_reg ?_); intro K hK) | ((with_reducible refine k_nil ?_); (with_reducible apply s_nil hK); (· exact nmX); clear hK; clear K) | ((with_reducible refine k_cond ?_); (((with_reducible apply s_condF); (· rfl); (· exact nmX)))) | ((with_reducible refine k_guard ?_); ((refine s_gt rfl ?_))) | ((with_reducible refine k_mv ?_); (refine s_mv rfl ?_)) | ((with_reducible refine k_len ?_); ((refine s_len rfl rfl ?_))) | ((with_reducible refine k_pick ?_); ((refine s_pickF rfl rfl ?_))) | ((with_reducible refine k_lss ?_); (refine s_lss rfl rfl ?_)) | ((with_reducible refine k_gtr ?_); (refine s_gtr rfl rfl ?_)) | ((with_reducible refine k_load ?_); (((with_reducible apply s_loadP); (· rfl); (· (exact hpX))))) | ((with_reducible refine k_faddr ?_); (((with_reducible apply s_faddrP); (· rfl); (· rfl)))) | ((with_reducible refine k_box (dst := some 1) ?_); ((with_reducible apply s_box); (· rfl); (· rfl); intro k1 hk1; (try simp only [upd_none] at hk1))) | ((with_reducible refine k_br ?_); ((refine Br_f (by omega) ?_))) | (((with_reducible apply q_eqO)); (exact liO)))
  all_goals first | (exfalso; omega) | skip
  refine W_for B.length (fun i st => ∃ h', st = ⟨[(1, .pt k1 0), (44, bsD B), (45, .int .i64 B.length), (46, .int .i64 i)], h'⟩ ∧ h' k1 = some [.int .i64 depth, .int .i64 next, bsD B, casD C, rqsD Q]) ⟨_, rfl, upd_self⟩ ?_ ?_
  · rintro i e' h' hi ⟨h1, he, hb⟩
    cases he
    have hg := bsg hi
    have c1 := page_d B[i]
    rw [decide_eq_true (k4 _ (List.getElem_mem hi))] at c1
    generalize B[i] = b at *
    repeat' (first | (with_reducible first | refine W_seq ?_ | refine then_n ?_ | refine W_block ?_ | refine blk_n ?_ | refine W_skip ?_) | ((with_reducible refine s_reg ?_); intro K hK) | ((with_reducible refine k_nil ?_); (with_reducible apply s_nil hK); (· exact nmX); clear hK; clear K) | ((with_reducible refine k_cond ?_); (first | ((with_reducible apply s_condT); (· rfl); (· exact nmX)) | ((with_reducible apply s_condF); (· rfl); (· exact nmX)))) | ((with_reducible refine k_mv ?_); (refine s_mv rfl ?_)) | ((with_reducible refine k_not ?_); (refine s_not rfl (by exact Bool.not_true) ?_)) | ((with_reducible refine k_lss ?_); (refine s_lss rfl rfl ?_)) | ((with_reducible refine k_iaddr ?_); (((with_reducible apply s_iaddrV); (· rfl); (· rfl); (· (omega))))) | ((with_reducible refine k_load ?_); (((with_reducible apply s_loadV); (· rfl)))) | ((with_reducible refine k_add ?_); ((with_reducible apply s_add); (· rfl); (· rfl))) | ((with_reducible refine k_callF ?_); (((with_reducible apply s_call1); (· rfl)))) | ((with_reducible refine k_con ?_); (((with_reducible apply con_val (c1)); (· (repeat (first | exact All2.nil | (apply All2.cons; (· first | exact rdX))))); (· rfl); (· exact fun _ => rfl)))) | ((with_reducible refine k_br ?_); ((refine Br_t (by omega) ?_))) | ((first | (with_reducible apply q_eqI) | (with_reducible apply q_eqN)); ((simp (disch := omega) only [w64, wu8, wu16, wu32, wu64, tm_nn, td_nn, fd_nn, Int.reduceAdd, Int.reduceSub, Int.reduceMul, Int.reduceDiv, Int.reduceMod, Int.reduceNeg, Int.reduceToNat, Int.toNat_natCast, Int.toNat_zero, Int.zero_add, Int.add_zero, Int.one_mul, Int.reducePow, Nat.mul_one, Nat.zero_add, Nat.add_zero, Nat.zero_mul, Nat.reduceAdd, Nat.reduceMul, Nat.reduceSub, Nat.min_eq_left, IntKind.bits, Nat.sub_zero, hg]; try rfl; done))) | (((with_reducible apply q_eqO)); ((simp (disch := omega) only [upd_self, upd_ne, upd_upd, rep, splice, List.take_succ_cons, List.take_zero, List.drop_succ_cons, List.drop_zero, List.cons_append, List.nil_append, List.append_nil, List.length_cons, List.length_nil, List.reduceReplicate, List.flatten_cons, List.flatten_nil, Nat.reduceAdd, Nat.reduceMul, Nat.reduceSub, Nat.zero_add, Nat.add_zero, List.getElem?_cons_zero, List.getElem?_cons_succ, hg]; try rfl; done))))
    all_goals first | (exfalso; omega) | exact ⟨_, rfl, hb⟩
  rintro e' h' ⟨h1, he, hb⟩
  cases he
  repeat' (first | (with_reducible first | refine W_seq ?_ | refine then_n ?_ | refine W_block ?_ | refine blk_e ?_ | refine W_exit ?_ | refine then_e ?_) | ((with_reducible refine s_reg ?_); intro K hK) | ((with_reducible refine k_nil ?_); (with_reducible apply s_nil hK); (· exact nmX); clear hK; clear K) | ((with_reducible refine k_cond ?_); (((with_reducible apply s_condF); (· rfl); (· exact nmX)))) | ((with_reducible refine k_mv ?_); (refine s_mv rfl ?_)) | ((with_reducible refine k_len ?_); ((refine s_len rfl rfl ?_))) | ((with_reducible refine k_lss ?_); (refine s_lss rfl rfl ?_)) | ((with_reducible refine k_load ?_); (((with_reducible apply s_loadP); (· rfl); (· (exact hpX))))) | ((with_reducible refine k_faddr ?_); (((with_reducible apply s_faddrP); (· rfl); (· rfl)))) | ((with_reducible refine k_br ?_); ((refine Br_f (by omega) ?_))) | (((with_reducible apply q_eqO)); (exact liO)))
  all_goals first | (exfalso; omega) | skip
  refine W_for C.length (fun i st => ∃ h', st = ⟨[(1, .pt k1 0), (5, .int .i64 (preC C i)), (55, casD C), (56, .int .i64 C.length), (57, .int .i64 i)], h'⟩ ∧ h' k1 = some [.int .i64 depth, .int .i64 next, bsD B, casD C, rqsD Q]) ⟨_, rfl, hb⟩ ?_ ?_
  · clear hb
    rintro i e' h' hi ⟨h1, he, hb⟩
    cases he
    have hrow := car hi
    have h5 := k5 i hi
    rw [preC_s hi]
    generalize preC C i = pv at *
    generalize C[i] = c at *
    obtain ⟨cb, cd⟩ := c
    dsimp only at *
    repeat' (first | (with_reducible first | refine W_seq ?_ | refine then_n ?_ | refine W_block ?_ | refine blk_n ?_ | refine W_skip ?_) | ((with_reducible refine s_reg ?_); intro K hK) | ((with_reducible refine k_nil ?_); (with_reducible apply s_nil hK); (· exact nmX); clear hK; clear K) | ((with_reducible refine k_cond ?_); (first | ((with_reducible apply s_condT); (· rfl); (· exact nmX)) | ((with_reducible apply s_condF); (· rfl); (· exact nmX)))) | ((with_reducible refine k_guard ?_); ((refine s_gt rfl ?_))) | ((with_reducible refine k_mv ?_); (refine s_mv rfl ?_)) | ((with_reducible refine k_len ?_); ((refine s_len rfl rfl ?_))) | ((with_reducible refine k_pick ?_); ((refine s_pickF rfl rfl ?_))) | ((with_reducible refine k_lss ?_); (refine s_lss rfl rfl ?_)) | ((with_reducible refine k_leq ?_); (refine s_leq rfl rfl ?_)) | ((with_reducible refine k_geq ?_); (refine s_geq rfl rfl ?_)) | ((with_reducible refine k_iaddr ?_); (((with_reducible apply s_iaddrV); (· rfl); (· rfl); (· (omega))))) | ((with_reducible refine k_load ?_); (((with_reducible apply s_loadP); (· rfl); (· (exact hpX))))) | ((with_reducible refine k_loadA ?_); (((with_reducible apply s_loadAV); (· rfl); (· (omega))))) | ((with_reducible refine k_add ?_); ((with_reducible apply s_add); (· rfl); (· rfl))) | ((with_reducible refine k_store ?_); ((with_reducible apply s_store0); (· rfl); (· rfl); (· rfl); (· (exact hpX)); (· (exact ⟨rfl, by exact Nat.le_of_ble_eq_true rfl⟩)); (· (((simp (disch := omega) only [upd_self, upd_ne, upd_upd, rep, splice, List.take_succ_cons, List.take_zero, List.drop_succ_cons, List.drop_zero, List.cons_append, List.nil_append, List.append_nil, List.length_cons, List.length_nil, List.reduceReplicate, List.flatten_cons, List.flatten_nil, Nat.reduceAdd, Nat.reduceMul, Nat.reduceSub, Nat.zero_add, Nat.add_zero, List.getElem?_cons_zero, List.getElem?_cons_succ, hrow]; try rfl; done)))); (· (exact upd_upd)))) | ((with_reducible refine k_faddr ?_); (((with_reducible apply s_faddrP); (· rfl); (· rfl)))) | ((with_reducible refine k_alloc (dst := some 7) ?_); ((with_reducible apply s_alloc); intro k7 hk7; (try simp only [upd_none] at hk7))) | ((with_reducible refine k_br ?_); (first | (refine Br_t (by omega) ?_) | (refine Br_f (by omega) ?_))) | ((first | (with_reducible apply q_eqI) | (with_reducible apply q_eqN)); ((simp (disch := omega) only [w64, wu8, wu16, wu32, wu64, tm_nn, td_nn, fd_nn, Int.reduceAdd, Int.reduceSub, Int.reduceMul, Int.reduceDiv, Int.reduceMod, Int.reduceNeg, Int.reduceToNat, Int.toNat_natCast, Int.toNat_zero, Int.zero_add, Int.add_zero, Int.one_mul, Int.reducePow, Nat.mul_one, Nat.zero_add, Nat.add_zero, Nat.zero_mul, Nat.reduceAdd, Nat.reduceMul, Nat.reduceSub, Nat.min_eq_left, IntKind.bits, Nat.sub_zero, hrow]; try rfl; done))) | ((first | (with_reducible apply q_eqL) | (with_reducible apply q_eqO)); ((simp (disch := omega) only [upd_self, upd_ne, upd_upd, rep, splice, List.take_succ_cons, List.take_zero, List.drop_succ_cons, List.drop_zero, List.cons_append, List.nil_append, List.append_nil, List.length_cons, List.length_nil, List.reduceReplicate, List.flatten_cons, List.flatten_nil, Nat.reduceAdd, Nat.reduceMul, Nat.reduceSub, Nat.zero_add, Nat.add_zero, List.getElem?_cons_zero, List.getElem?_cons_succ, hrow]; try rfl; done))))
    all_goals first | (exfalso; omega) | skip
    exact ⟨_, rfl, upd_sub hk7 _ _ hb⟩
  clear hb
  rintro e' h' ⟨h1, he, hb⟩
  cases he
  repeat' (first | (with_reducible first | refine W_seq ?_ | refine then_n ?_ | refine W_block ?_ | refine blk_e ?_ | refine W_exit ?_ | refine then_e ?_) | ((with_reducible refine s_reg ?_); intro K hK) | ((with_reducible refine k_nil ?_); (with_reducible apply s_nil hK); (· exact nmX); clear hK; clear K) | ((with_reducible refine k_cond ?_); (((with_reducible apply s_condF); (· rfl); (· exact nmX)))) | ((with_reducible refine k_mv ?_); (refine s_mv rfl ?_)) | ((with_reducible refine k_len ?_); ((refine s_len rfl rfl ?_))) | ((with_reducible refine k_lss ?_); (refine s_lss rfl rfl ?_)) | ((with_reducible refine k_load ?_); (((with_reducible apply s_loadP); (· rfl); (· (exact hpX))))) | ((with_reducible refine k_faddr ?_); (((with_reducible apply s_faddrP); (· rfl); (· rfl)))) | ((with_reducible refine k_br ?_); ((refine Br_f (by omega) ?_))) | (((with_reducible apply q_eqO)); (exact liO)))
  all_goals first | (exfalso; omega) | skip
  refine W_for C.length (fun i st => ∃ h', st = ⟨[(1, .pt k1 0), (77, casD C), (78, .int .i64 C.length), (79, .int .i64 i)], h'⟩ ∧ h' k1 = some [.int .i64 depth, .int .i64 next, bsD B, casD C, rqsD Q]) ⟨_, rfl, hb⟩ ?_ ?_
  · clear hb
    rintro i e' h' hi ⟨h1, he, hb⟩
    cases he
    have hrow := car hi
    have c1 := page_d C[i].data
    rw [decide_eq_true (k6 _ (List.getElem_mem hi))] at c1
    generalize C[i] = c at *
    obtain ⟨cb, cd⟩ := c
    dsimp only at *
    repeat' (first | (with_reducible first | refine W_seq ?_ | refine then_n ?_ | refine W_block ?_ | refine blk_n ?_ | refine W_skip ?_) | ((with_reducible refine s_reg ?_); intro K hK) | ((with_reducible refine k_nil ?_); (with_reducible apply s_nil hK); (· exact nmX); clear hK; clear K) | ((with_reducible refine k_cond ?_); (first | ((with_reducible apply s_condT); (· rfl); (· exact nmX)) | ((with_reducible apply s_condF); (· rfl); (· exact nmX)))) | ((with_reducible refine k_mv ?_); (refine s_mv rfl ?_)) | ((with_reducible refine k_not ?_); (refine s_not rfl (by exact Bool.not_true) ?_)) | ((with_reducible refine k_lss ?_); (refine s_lss rfl rfl ?_)) | ((with_reducible refine k_iaddr ?_); (((with_reducible apply s_iaddrV); (· rfl); (· rfl); (· (omega))))) | ((with_reducible refine k_load ?_); (((with_reducible apply s_loadP); (· rfl); (· (exact hpX))))) | ((with_reducible refine k_loadA ?_); (((with_reducible apply s_loadAV); (· rfl); (· (omega))))) | ((with_reducible refine k_add ?_); ((with_reducible apply s_add); (· rfl); (· rfl))) | ((with_reducible refine k_store ?_); ((with_reducible apply s_store0); (· rfl); (· rfl); (· rfl); (· (exact hpX)); (· (exact ⟨rfl, by exact Nat.le_of_ble_eq_true rfl⟩)); (· (((simp (disch := omega) only [upd_self, upd_ne, upd_upd, rep, splice, List.take_succ_cons, List.take_zero, List.drop_succ_cons, List.drop_zero, List.cons_append, List.nil_append, List.append_nil, List.length_cons, List.length_nil, List.reduceReplicate, List.flatten_cons, List.flatten_nil, Nat.reduceAdd, Nat.reduceMul, Nat.reduceSub, Nat.zero_add, Nat.add_zero, List.getElem?_cons_zero, List.getElem?_cons_succ, hrow]; try rfl; done)))); (· (exact upd_upd)))) | ((with_reducible refine k_faddr ?_); (((with_reducible apply s_faddrP); (· rfl); (· rfl)))) | ((with_reducible refine k_alloc (dst := some 9) ?_); ((with_reducible apply s_alloc); intro k9 hk9; (try simp only [upd_none] at hk9))) | ((with_reducible refine k_callF ?_); (((with_reducible apply s_call1); (· rfl)))) | ((with_reducible refine k_con ?_); (((with_reducible apply con_val (c1)); (· (repeat (first | exact All2.nil | (apply All2.cons; (· first | exact rdX))))); (· rfl); (· exact fun _ => rfl)))) | ((with_reducible refine k_br ?_); ((refine Br_t (by omega) ?_))) | ((first | (with_reducible apply q_eqI) | (with_reducible apply q_eqN)); ((simp (disch := omega) only [w64, wu8, wu16, wu32, wu64, tm_nn, td_nn, fd_nn, Int.reduceAdd, Int.reduceSub, Int.reduceMul, Int.reduceDiv, Int.reduceMod, Int.reduceNeg, Int.reduceToNat, Int.toNat_natCast, Int.toNat_zero, Int.zero_add, Int.add_zero, Int.one_mul, Int.reducePow, Nat.mul_one, Nat.zero_add, Nat.add_zero, Nat.zero_mul, Nat.reduceAdd, Nat.reduceMul, Nat.reduceSub, Nat.min_eq_left, IntKind.bits, Nat.sub_zero, hrow]; try rfl; done))) | ((first | (with_reducible apply q_eqL) | (with_reducible apply q_eqO)); ((simp (disch := omega) only [upd_self, upd_ne, upd_upd, rep, splice, List.take_succ_cons, List.take_zero, List.drop_succ_cons, List.drop_zero, List.cons_append, List.nil_append, List.append_nil, List.length_cons, List.length_nil, List.reduceReplicate, List.flatten_cons, List.flatten_nil, Nat.reduceAdd, Nat.reduceMul, Nat.reduceSub, Nat.zero_add, Nat.add_zero, List.getElem?_cons_zero, List.getElem?_cons_succ, hrow]; try rfl; done))))
    all_goals first | (exfalso; omega) | skip
    exact ⟨_, rfl, upd_sub hk9 _ _ hb⟩
  clear hb
  rintro e' h' ⟨h1, he, hb⟩
  cases he
  repeat' (first | (with_reducible first | refine W_seq ?_ | refine then_n ?_ | refine W_block ?_ | refine blk_e ?_ | refine W_skip ?_ | refine W_exit ?_ | refine then_e ?_) | ((with_reducible refine s_reg ?_); intro K hK) | ((with_reducible refine k_nil ?_); (with_reducible apply s_nil hK); (· exact nmX); clear hK; clear K) | ((with_reducible refine k_cond ?_); (((with_reducible apply s_condF); (· rfl); (· exact nmX)))) | ((with_reducible refine k_mv ?_); (refine s_mv rfl ?_)) | ((with_reducible refine k_len ?_); ((refine s_len rfl rfl ?_))) | ((with_reducible refine k_lss ?_); (refine s_lss rfl rfl ?_)) | ((with_reducible refine k_gtr ?_); (refine s_gtr rfl rfl ?_)) | ((with_reducible refine k_load ?_); (((with_reducible apply s_loadP); (· rfl); (· (exact hpX))))) | ((with_reducible refine k_faddr ?_); (((with_reducible apply s_faddrP); (· rfl); (· rfl)))) | ((with_reducible refine k_br ?_); ((refine Br_f (by omega) ?_))) | (((with_reducible apply q_eqO)); (exact liO)))
  all_goals first | (exfalso; omega) | skip
  refine W_for Q.length (fun i st => ∃ h', st = ⟨[(1, .pt k1 0), (5, .int .i64 (preQ Q i)), (95, rqsD Q), (96, .int .i64 Q.length), (97, .int .i64 i)], h'⟩ ∧ h' k1 = some [.int .i64 depth, .int .i64 next, bsD B, casD C, rqsD Q]) ⟨_, rfl, hb⟩ ?_ ?_
  · clear hb
    rintro i e' h' hi ⟨h1, he, hb⟩
    cases he
    have hrow := rqr hi
    have h9 := k9 i hi
    have c1 := hrq i hi
    rw [preQ_s hi]
    clear hrq
    generalize preQ Q i = pv at *
    generalize Q[i] = q at *
    obtain ⟨q1, q2, q3, q4⟩ := q
    dsimp only [Rq.cells] at *
    repeat' (first | (with_reducible first | refine W_seq ?_ | refine then_n ?_ | refine W_block ?_ | refine blk_n ?_ | refine W_skip ?_) | ((with_reducible refine s_reg ?_); intro K hK) | ((with_reducible refine k_nil ?_); (with_reducible apply s_nil hK); (· exact nmX); clear hK; clear K) | ((with_reducible refine k_cond ?_); (first | ((with_reducible apply s_condT); (· rfl); (· exact nmX)) | ((with_reducible apply s_condF); (· rfl); (· exact nmX)))) | ((with_reducible refine k_guard ?_); ((refine s_gt rfl ?_))) | ((with_reducible refine k_mv ?_); (refine s_mv rfl ?_)) | ((with_reducible refine k_pick ?_); ((refine s_pickF rfl rfl ?_))) | ((with_reducible refine k_neq ?_); ((refine s_neq rfl rfl ?_))) | ((with_reducible refine k_lss ?_); (refine s_lss rfl rfl ?_)) | ((with_reducible refine k_leq ?_); (refine s_leq rfl rfl ?_)) | ((with_reducible refine k_geq ?_); (refine s_geq rfl rfl ?_)) | ((with_reducible refine k_iaddr ?_); (((with_reducible apply s_iaddrV); (· rfl); (· rfl); (· (omega))))) | ((with_reducible refine k_load ?_); (((with_reducible apply s_loadP); (· rfl); (· (exact hpX))))) | ((with_reducible refine k_loadA ?_); (first | ((with_reducible apply s_loadAV); (· rfl); (· (omega))) | ((with_reducible apply s_loadAP); (· rfl); (· (exact hpX)); (· (exact Nat.le_of_ble_eq_true rfl))))) | ((with_reducible refine k_add ?_); ((with_reducible apply s_add); (· rfl); (· rfl))) | ((with_reducible refine k_store ?_); ((with_reducible apply s_store0); (· rfl); (· rfl); (· rfl); (· (exact hpX)); (· (exact ⟨rfl, by exact Nat.le_of_ble_eq_true rfl⟩)); (· (((simp (disch := omega) only [upd_self, upd_ne, upd_upd, rep, splice, List.take_succ_cons, List.take_zero, List.drop_succ_cons, List.drop_zero, List.cons_append, List.nil_append, List.append_nil, List.length_cons, List.length_nil, List.reduceReplicate, List.flatten_cons, List.flatten_nil, Nat.reduceAdd, Nat.reduceMul, Nat.reduceSub, Nat.zero_add, Nat.add_zero, List.getElem?_cons_zero, List.getElem?_cons_succ, hrow]; try rfl; done)))); (· (exact upd_upd)))) | ((with_reducible refine k_faddr ?_); (((with_reducible apply s_faddrP); (· rfl); (· rfl)))) | ((with_reducible refine k_alloc (dst := some 11) ?_); ((with_reducible apply s_alloc); intro k11 hk11; (try simp only [upd_none] at hk11))) | ((with_reducible refine k_callF ?_); (((with_reducible apply s_call1); (· rfl)))) | ((with_reducible refine k_con ?_); (((with_reducible apply con_val (c1)); (· (repeat (first | exact All2.nil | (apply All2.cons; (· first | exact Rd_dv | exact Rd_e4))))); (· rfl); (· exact fun _ => rfl)))) | ((with_reducible refine k_br ?_); (first | (refine Br_t (by first | with_reducible rfl | omega) ?_) | (refine Br_f (by omega) ?_))) | ((first | (with_reducible apply q_eqI) | (with_reducible apply q_eqN)); ((simp (disch := omega) only [w64, wu8, wu16, wu32, wu64, tm_nn, td_nn, fd_nn, Int.reduceAdd, Int.reduceSub, Int.reduceMul, Int.reduceDiv, Int.reduceMod, Int.reduceNeg, Int.reduceToNat, Int.toNat_natCast, Int.toNat_zero, Int.zero_add, Int.add_zero, Int.one_mul, Int.reducePow, Nat.mul_one, Nat.zero_add, Nat.add_zero, Nat.zero_mul, Nat.reduceAdd, Nat.reduceMul, Nat.reduceSub, Nat.min_eq_left, IntKind.bits, Nat.sub_zero, hrow]; try rfl; done))) | ((first | (with_reducible apply q_eqL) | (with_reducible apply q_eqO)); ((simp (disch := omega) only [upd_self, upd_ne, upd_upd, rep, splice, List.take_succ_cons, List.take_zero, List.drop_succ_cons, List.drop_zero, List.cons_append, List.nil_append, List.append_nil, List.length_cons, List.length_nil, List.reduceReplicate, List.flatten_cons, List.flatten_nil, Nat.reduceAdd, Nat.reduceMul, Nat.reduceSub, Nat.zero_add, Nat.add_zero, List.getElem?_cons_zero, List.getElem?_cons_succ, hrow]; try rfl; done))))
    all_goals first | (exfalso; omega) | skip
    exact ⟨_, rfl, upd_sub hk11 _ _ hb⟩
  clear hb
  rintro e' h' ⟨h1, he, hb⟩
  cases he
  repeat' (first | (with_reducible first | refine W_seq ?_ | refine then_n ?_ | refine blk_e ?_ | refine W_ret ?_ | refine W_exit ?_ | refine then_e ?_) | ((with_reducible refine s_reg ?_); intro K hK) | ((with_reducible refine k_nil ?_); (with_reducible apply s_nil hK); (· exact nmX); clear hK; clear K) | ((with_reducible refine k_cond ?_); (((with_reducible apply s_condF); (· rfl); (· exact nmX)))) | ((with_reducible refine k_mv ?_); (refine s_mv rfl ?_)) | ((with_reducible refine k_lss ?_); (refine s_lss rfl rfl ?_)) | ((with_reducible refine k_br ?_); ((refine Br_f (by omega) ?_))))
  all_goals first | (exfalso; omega) | exact Fin_flat trivial rfl rfl
end Go.Proofs.Ythblalidmmbcoaa
end
section
/- min -/
/- The state in memory; finding, reading. -/
set_option linter.unusedSimpArgs false
set_option linter.unusedVariables false
namespace Go.Proofs.Ythblalidmmbcoaa
open Go.AM Classical
set_option maxRecDepth 100000
set_option maxHeartbeats 4000000
/-! ### Slices whose block may be longer -/
def SlPre (h : Heap) (d : D) (sz : Nat) (cells : List D) (n : Nat) : Prop :=
  cells.length = n * sz ∧ ((n = 0 ∧ (d = .nil ∨ d = .emp)) ∨ ∃ k tl t, d = .sl k sz 0 n ∧ h k = some (cells ++ tl) ∧ tl.length = t * sz)
theorem SlPre.nil {h : Heap} {sz : Nat} : SlPre h .nil sz [] 0 := ⟨by simp, .inl ⟨rfl, .inl rfl⟩⟩
theorem SlPre.len {h : Heap} {d : D} {sz n : Nat} {cells : List D} (ho : SlPre h d sz cells n) : lenD d = some n := by
  obtain ⟨_, ⟨rfl, rfl | rfl⟩ | ⟨k, tl, t, rfl, _, _⟩⟩ := ho <;> rfl
theorem SlPre.mono {h h2 : Heap} {d : D} {sz n : Nat} {cells : List D} (ho : SlPre h d sz cells n) (hh : ∀ j c, h j = some c → (∃ sz off n, d = .sl j sz off n) → h2 j = some c) : SlPre h2 d sz cells n := by
  obtain ⟨hl, h0 | ⟨k, tl, t, rfl, hk, ht⟩⟩ := ho
  · exact ⟨hl, .inl h0⟩
  · exact ⟨hl, .inr ⟨k, tl, t, rfl, hh k _ hk ⟨_, _, _, rfl⟩, ht⟩⟩
theorem SlPre.pos {h : Heap} {d : D} {sz n : Nat} {cells : List D} (ho : SlPre h d sz cells n) (hn : 0 < n) : ∃ k tl t, d = .sl k sz 0 n ∧ h k = some (cells ++ tl) ∧ tl.length = t * sz := by
  obtain ⟨_, ⟨h0, _⟩ | h1⟩ := ho
  · omega
  · exact h1
theorem append1_pre {h : Heap} {d dy : D} {sz n bytes : Nat} {cells new : List D} (ho : SlPre h d sz cells n) (hy : lenA dy = some 1) (hs : srcD h sz 1 dy = some new) (hl : new.length = sz) (hsz : 0 < sz) (hr : (n + 1) * bytes ≤ room) {k : Nat} (hk : h k = none) :
    ∃ d' h', appD h k sz bytes d dy = some (d', h') ∧ SlPre h' d' sz (cells ++ new) (n + 1) ∧ ∀ j c, h j = some c → (∀ sz off n, d ≠ .sl j sz off n) → h' j = some c ∧ ∀ sz off n, d' ≠ .sl j sz off n := by
  obtain ⟨hcl, ⟨rfl, hd⟩ | ⟨k2, tl, t, rfl, hk2, ht⟩⟩ := ho
  · have hc0 : cells = [] := List.length_eq_zero_iff.1 (by simpa using hcl)
    subst hc0
    refine ⟨.sl k sz 0 1, upd h k new, ?_, ⟨by simp [hl], .inr ⟨k, [], 0, rfl, by simp [upd], by simp⟩⟩, ?_⟩
    · rcases hd with rfl | rfl <;> simp [appD, hy, hs] <;> omega
    · intro j c hj _
      have hjk : j ≠ k := fun e => by rw [e, hk] at hj; cases hj
      exact ⟨by rw [upd_ne hjk]; exact hj, fun sz off n he => by injection he with he; exact hjk he.symm⟩
  · have hlen : (cells ++ tl).length = n * sz + t * sz := by simp [hcl, ht]
    by_cases ht0 : t = 0
    · subst ht0
      have htl : tl = [] := List.length_eq_zero_iff.1 (by simpa using ht)
      subst htl
      simp only [List.append_nil] at hk2 hlen
      refine ⟨.sl k sz 0 (n + 1), upd (del h k2) k (cells ++ new), ?_, ⟨by simp [hl, hcl, Nat.add_mul], .inr ⟨k, [], 0, rfl, by simp [upd], by simp⟩⟩, ?_⟩
      · have h1 : ¬ (n + 1) * sz ≤ n * sz := by rw [Nat.add_mul]; omega
        simp [appD, hy, hs, hk2, hcl, h1, hr]
      · intro j c hj hd
        have hjk : j ≠ k := fun e => by rw [e, hk] at hj; cases hj
        have hjk2 : j ≠ k2 := fun e => hd sz 0 n (by rw [e])
        refine ⟨by rw [upd_ne hjk]; simp only [del]; rw [if_neg hjk2]; exact hj, fun sz off n he => by injection he with he; exact hjk he.symm⟩
    · have h1 : (n + 1) * sz ≤ (cells ++ tl).length := by
        rw [hlen, Nat.add_mul]
        have : 1 * sz ≤ t * sz := Nat.mul_le_mul_right _ (by omega)
        omega
      have h2 : splice (cells ++ tl) (n * sz) new = (cells ++ new) ++ tl.drop sz := by
        unfold splice
        rw [List.take_append_of_le_length (by omega), List.take_of_length_le (by omega), hl, List.drop_append, List.drop_eq_nil_of_le (by omega), hcl]
        simp
      refine ⟨.sl k2 sz 0 (n + 1), upd h k2 ((cells ++ new) ++ tl.drop sz), ?_, ⟨by simp [hl, hcl, Nat.add_mul], .inr ⟨k2, tl.drop sz, t - 1, rfl, by simp [upd], ?_⟩⟩, ?_⟩
      · have h3 : 0 + (n + 1) * sz ≤ (cells ++ tl).length := by omega
        simp only [appD, hy, hs, hk2, if_true]
        rw [if_neg (by omega), if_pos h3, Nat.zero_add, h2]
      · rw [List.length_drop, ht, Nat.sub_mul]; omega
      · intro j c hj hd
        have hjk2 : j ≠ k2 := fun e => hd sz 0 n (by rw [e])
        exact ⟨by rw [upd_ne hjk2]; exact hj, fun sz off m he => hd sz off n (by injection he with he; subst he; exact (hjk2 rfl).elim)⟩
theorem s_appP {P : Program} {e : Env} {h : Heap} {r : List AIns} {K : Env → Heap → Prop} {t : Nat} {sz bytes n : Nat} {x y : O} {d dy : D} {cells new : List D} (h1 : evO (AM.get e) x = some d) (h2 : evO (AM.get e) y = some dy) (ho : SlPre h d sz cells n) (hy : lenA dy = some 1) (hs : srcD h sz 1 dy = some new) (hl : new.length = sz ∧ 0 < sz) (hr : (n + 1) * bytes ≤ room)
    (hw : ∀ d' h', SlPre h' d' sz (cells ++ new) (n + 1) → (∀ j c, h j = some c → (∀ sz off n, d ≠ .sl j sz off n) → h' j = some c ∧ ∀ sz off n, d' ≠ .sl j sz off n) → Wops P r ((t, d') :: e) h' K) : Wops P (⟨some t, .append sz bytes x y, none⟩ :: r) e h K :=
  s_append h1 h2 fun k hk => let ⟨d', h', h3, h4, h5⟩ := append1_pre ho hy hs hl.1 hl.2 hr hk; ⟨d', h', h3, hw d' h' h4 h5⟩
theorem Rd_pre {h : Heap} {d : D} {sz n : Nat} {cells cells' : List D} (ho : SlPre h d sz cells n) (hr : All2 (Rd h) cells cells') : Rd h d (.vs sz cells' n) := by
  obtain ⟨hcl, ⟨rfl, hd⟩ | ⟨k, tl, t, rfl, hk, ht⟩⟩ := ho
  · have hc0 : cells = [] := List.length_eq_zero_iff.1 (by simpa using hcl)
    subst hc0
    have hc1 : cells' = [] := List.length_eq_zero_iff.1 (by have := hr.1; simpa using this.symm)
    subst hc1
    rcases hd with rfl | rfl
    · exact Rd_nil
    · exact Rd_emp
  · intro s v H hv
    obtain ⟨_, ad, cap, rfl, hna, hlc, hq⟩ := hv.inv_sl
    obtain ⟨_, x, hx, _, hown⟩ := H.own k _ hk
    obtain ⟨hcc, hcap⟩ := hq x _ hx
    rw [List.length_append, hcl] at hcc
    rcases hcap with h0 | ⟨b, cs, e, rfl, rfl, hbb, hs⟩
    · obtain rfl : n = 0 := by omega
      have hc0 : cells = [] := List.length_eq_zero_iff.1 (by simpa using hcl)
      subst hc0
      have hc1 : cells' = [] := List.length_eq_zero_iff.1 (by have := hr.1; simpa using this.symm)
      subst hc1
      exact RP.vs0 ad cap sz
    · obtain ⟨hnp, cs2, e2, hh, hl2, hall⟩ := hown b rfl
      have hbl : b < s.w.heap.size := by
        rcases Nat.lt_or_ge b s.w.heap.size with h' | h'
        · exact h'
        · simp [Array.getElem?_eq_none h'] at hh
      have hall2 := hall.take cells.length
      rw [List.take_take, Nat.min_eq_left (by simp), List.take_left' rfl] at hall2
      have hat := (cellsAt_block hh).sub 0 cells.length
      simp only [Nat.add_zero, List.drop_zero] at hat
      refine .vs b 0 cap sz n _ (cs2.toList.take cells.length) (by rw [← hr.1]; exact hcl) hlc hbl (hall2.1.trans hr.1) ?_ hat ?_
      · intro v hv'
        obtain ⟨i, hi⟩ := List.mem_iff_getElem?.1 hv'
        have hlt : i < cells.length := by
          rcases Nat.lt_or_ge i (cs2.toList.take cells.length).length with h' | h'
          · rw [hall2.1] at h'; exact h'
          · simp [List.getElem?_eq_none h'] at hi
        exact (hall2.2 i v _ hi (List.getElem?_eq_getElem hlt)).2
      · intro i v d hv' hd
        have hlt : i < cells.length := by
          rcases Nat.lt_or_ge i cells.length with h' | h'
          · exact h'
          · rw [List.getElem?_eq_none (by rw [← hr.1]; exact h')] at hd; cases hd
        have hci := List.getElem?_eq_getElem hlt
        exact hr.2 i _ d hci hd s v H (hall2.2 i v _ hv' hci).1
/-! ### The state -/
def cD : Option Bs → D
  | none => .nil
  | some c => bD c
def Wr.cells (w : Wr) : List D := [.int .i64 w.id, .int .i64 w.block, bD w.data]
theorem Wr.cells_len (w : Wr) : w.cells.length = 3 := rfl
theorem wrs_len (l : List Wr) : (l.flatMap Wr.cells).length = l.length * 3 := fm_len Wr.cells_len l
theorem wrr {l : List Wr} {i : Nat} (h : i < l.length) : ((l.flatMap Wr.cells).drop (i * 3)).take 3 = [.int .i64 l[i].id, .int .i64 l[i].block, bD l[i].data] := fm_row Wr.cells_len h
theorem wr1 {l : List Wr} {i : Nat} (h : i < l.length) : (l.flatMap Wr.cells)[i * 3 + 1]? = some (.int .i64 l[i].block) := fm_cell (j := 1) Wr.cells_len h (by omega)
theorem wr2 {l : List Wr} {i : Nat} (h : i < l.length) : (l.flatMap Wr.cells)[i * 3 + 2]? = some (bD l[i].data) := fm_cell (j := 2) Wr.cells_len h (by omega)
theorem wrs_rd {h : Heap} (l : List Wr) : All2 (Rd h) (l.flatMap Wr.cells) (l.flatMap Wr.cells) := by
  induction l with
  | nil => exact All2.nil
  | cons w l ih => exact All2.append (All2.cons Rd_int (All2.cons Rd_int (All2.cons Rd_vs All2.nil))) ih
structure StH (h : Heap) (k kF kC : Nat) (dO : D) (s : Sd) : Prop where
  st : h k = some [.sl kF 1 0 s.firm.length, .sl kC 1 0 s.cache.length, dO]
  f : h kF = some (s.firm.map bD)
  c : h kC = some (s.cache.map cD)
  o : SlPre h dO 3 (s.out.flatMap Wr.cells) s.out.length
  ne : kF ≠ k ∧ kC ≠ k ∧ kF ≠ kC
  no : ∀ sz off n, dO ≠ .sl k sz off n ∧ dO ≠ .sl kF sz off n ∧ dO ≠ .sl kC sz off n
def Away (k kF kC : Nat) (dO : D) (j : Nat) : Prop := j ≠ k ∧ j ≠ kF ∧ j ≠ kC ∧ ∀ sz off n, dO ≠ .sl j sz off n
theorem StH.mono {h h2 : Heap} {k kF kC : Nat} {dO : D} {s : Sd} (H : StH h k kF kC dO s) (hh : ∀ j c, h j = some c → h2 j = some c) : StH h2 k kF kC dO s :=
  ⟨hh _ _ H.st, hh _ _ H.f, hh _ _ H.c, H.o.mono fun j c hj _ => hh j c hj, H.ne, H.no⟩
theorem StH.outRd {h : Heap} {k kF kC : Nat} {dO : D} {s : Sd} (H : StH h k kF kC dO s) {kb : Nat} {c : List D} (hk : h kb = none) : Rd (upd h kb c) dO (.vs 3 (s.out.flatMap Wr.cells) s.out.length) :=
  Rd_pre (H.o.mono fun j c hj _ => by rw [upd_ne (fun e => by rw [e, hk] at hj; cases hj)]; exact hj) (wrs_rd _)
theorem isO_c (w : Wr) (i : Int) : PCon Try.prog 85 [.agg w.cells, .vp [.int .i64 i] 0] (.bool (isO i w)) := by
  refine A85p (by simp [A85]) ?_
  simp only [A85, argEnv]
  obtain ⟨a, b, c⟩ := w
  dsimp only [Wr.cells, isO]
  repeat' (first | (with_reducible first | refine W_seq ?_ | refine then_n ?_ | refine W_ret ?_) | ((with_reducible refine s_reg ?_); intro K hK) | ((with_reducible refine k_nil ?_); (with_reducible apply s_nil hK); (· exact nmX); clear hK; clear K) | ((with_reducible refine k_mv ?_); (refine s_mv rfl ?_)) | ((with_reducible refine k_eql ?_); ((refine s_eql rfl rfl ?_))) | ((with_reducible refine k_load ?_); (first | ((with_reducible apply s_loadV); (· rfl)) | ((with_reducible apply s_loadP); (· rfl); (· (exact hpX))))) | ((with_reducible refine k_faddr ?_); (((with_reducible apply s_faddrP); (· rfl); (· rfl)))) | ((with_reducible refine k_box (dst := some 2) ?_); ((with_reducible apply s_box); (· rfl); (· rfl); intro k2 hk2; (try simp only [upd_none] at hk2))) | ((with_reducible refine k_br ?_); ((with_reducible apply Br_s <;> intro hbr))) | (((with_reducible apply q_eqO)); (exact liO)))
  all_goals first | exact Fin_bt trivial rfl (by first | assumption | rfl | omega) | exact Fin_bf trivial rfl (by first | assumption | omega)
theorem pidx_c (o : List Wr) (hl : o.length ≤ 1000000) (i : Int) : PCon Try.prog 84 [.vs 3 (o.flatMap Wr.cells) o.length, .fn 85 [] [.vp [.int .i64 i] 0]] (.int .i64 (firstI (isO i) o)) := by
  refine A84p (by simp [A84]) ?_
  simp only [A84, argEnv]
  have hal := wrs_len o
  repeat' (first | (with_reducible first | refine W_seq ?_ | refine then_n ?_ | refine W_block ?_) | ((with_reducible refine s_reg ?_); intro K hK) | ((with_reducible refine k_nil ?_); (with_reducible apply s_nil hK); (· exact nmX); clear hK; clear K) | ((with_reducible refine k_mv ?_); (refine s_mv rfl ?_)) | ((with_reducible refine k_len ?_); ((refine s_len rfl rfl ?_))))
  refine W_for o.length (fun j st => (∀ m (hm : m < j) (h : m < o.length), isO i o[m] = false) ∧ st = ⟨[(0, .vs 3 (o.flatMap Wr.cells) o.length), (1, .fn 85 [] [.vp [.int .i64 i] 0]), (7, .int .i64 o.length), (8, .int .i64 j)], fun _ => none⟩) ⟨fun j hj => by omega, rfl⟩ ?_ ?_
  · rintro j e' h' hi ⟨ht, he⟩
    cases he
    have hpi := isO_c o[j] i
    have hrow := wrr hi
    simp only [Wr.cells] at hpi
    cases hpb : isO i o[j] with
    | true =>
      rw [hpb] at hpi
      repeat' (first | (with_reducible first | refine W_seq ?_ | refine then_n ?_ | refine W_block ?_ | refine blk_r ?_ | refine W_skip ?_ | refine W_ret ?_ | refine then_r ?_) | ((with_reducible refine s_reg ?_); intro K hK) | ((with_reducible refine k_nil ?_); (with_reducible apply s_nil hK); (· exact nmX); clear hK; clear K) | ((with_reducible refine k_cond ?_); (((with_reducible apply s_condT); (· rfl); (· exact nmX)))) | ((with_reducible refine k_mv ?_); (refine s_mv rfl ?_)) | ((with_reducible refine k_lss ?_); (refine s_lss rfl rfl ?_)) | ((with_reducible refine k_iaddr ?_); (((with_reducible apply s_iaddrV); (· rfl); (· rfl); (· (omega))))) | ((with_reducible refine k_loadA ?_); (((with_reducible apply s_loadAV); (· rfl); (· (omega))))) | ((with_reducible refine k_callT ?_); ((with_reducible apply s_callt); (· rfl); (· rfl); (· rfl))) | ((with_reducible refine k_con ?_); (((with_reducible apply con_val (hpi)); (· (repeat (first | exact All2.nil | (apply All2.cons; (· first | exact Rd_w3 | exact rdX))))); (· rfl); (· exact fun _ => rfl)))) | ((with_reducible refine k_br ?_); ((refine Br_t (by omega) ?_))) | (((with_reducible apply q_eqN)); ((simp (disch := omega) only [w64, wu8, wu16, wu32, wu64, tm_nn, td_nn, fd_nn, Int.reduceAdd, Int.reduceSub, Int.reduceMul, Int.reduceDiv, Int.reduceMod, Int.reduceNeg, Int.reduceToNat, Int.toNat_natCast, Int.toNat_zero, Int.zero_add, Int.add_zero, Int.one_mul, Int.reducePow, Nat.mul_one, Nat.zero_add, Nat.add_zero, Nat.zero_mul, Nat.reduceAdd, Nat.reduceMul, Nat.reduceSub, Nat.min_eq_left, IntKind.bits, Nat.sub_zero, hrow]; try rfl; done))) | (((with_reducible apply q_eqL)); ((simp (disch := omega) only [upd_self, upd_ne, upd_upd, rep, splice, List.take_succ_cons, List.take_zero, List.drop_succ_cons, List.drop_zero, List.cons_append, List.nil_append, List.append_nil, List.length_cons, List.length_nil, List.reduceReplicate, List.flatten_cons, List.flatten_nil, Nat.reduceAdd, Nat.reduceMul, Nat.reduceSub, Nat.zero_add, Nat.add_zero, List.getElem?_cons_zero, List.getElem?_cons_succ, hrow]; try rfl; done))))
      rw [firstI_at hi hpb (fun m hm => ht m hm (by omega))]
      first | exact Fin_flat trivial rfl rfl | (refine Fin_tup trivial rfl ?_ (Nat.le_of_ble_eq_true rfl); (repeat (first | exact All2.nil | (apply All2.cons; (· first | exact exc_n | exact exc_e | exact exc_v rfl rfl | exact exc_o upd_self rfl rfl)))); done) | (refine Fin_own trivial rfl upd_self ?_ (Nat.le_of_ble_eq_true rfl); (repeat (first | exact All2.nil | (apply All2.cons; (· first | exact exc_n | exact exc_e | exact exc_v rfl rfl | exact exc_o upd_self rfl rfl)))); done) | exact Fin_nil trivial rfl | exact Fin_sl trivial rfl upd_self rfl rfl
    | false =>
      rw [hpb] at hpi
      repeat' (first | (with_reducible first | refine W_seq ?_ | refine then_n ?_ | refine W_block ?_ | refine blk_n ?_ | refine W_skip ?_) | ((with_reducible refine s_reg ?_); intro K hK) | ((with_reducible refine k_nil ?_); (with_reducible apply s_nil hK); (· exact nmX); clear hK; clear K) | ((with_reducible refine k_cond ?_); (first | ((with_reducible apply s_condT); (· rfl); (· exact nmX)) | ((with_reducible apply s_condF); (· rfl); (· exact nmX)))) | ((with_reducible refine k_mv ?_); (refine s_mv rfl ?_)) | ((with_reducible refine k_lss ?_); (refine s_lss rfl rfl ?_)) | ((with_reducible refine k_iaddr ?_); (((with_reducible apply s_iaddrV); (· rfl); (· rfl); (· (omega))))) | ((with_reducible refine k_loadA ?_); (((with_reducible apply s_loadAV); (· rfl); (· (omega))))) | ((with_reducible refine k_add ?_); ((with_reducible apply s_add); (· rfl); (· rfl))) | ((with_reducible refine k_callT ?_); ((with_reducible apply s_callt); (· rfl); (· rfl); (· rfl))) | ((with_reducible refine k_con ?_); (((with_reducible apply con_val (hpi)); (· (repeat (first | exact All2.nil | (apply All2.cons; (· first | exact Rd_w3 | exact rdX))))); (· rfl); (· exact fun _ => rfl)))) | ((with_reducible refine k_br ?_); ((refine Br_t (by omega) ?_))) | ((first | (with_reducible apply q_eqI) | (with_reducible apply q_eqN)); ((simp (disch := omega) only [w64, wu8, wu16, wu32, wu64, tm_nn, td_nn, fd_nn, Int.reduceAdd, Int.reduceSub, Int.reduceMul, Int.reduceDiv, Int.reduceMod, Int.reduceNeg, Int.reduceToNat, Int.toNat_natCast, Int.toNat_zero, Int.zero_add, Int.add_zero, Int.one_mul, Int.reducePow, Nat.mul_one, Nat.zero_add, Nat.add_zero, Nat.zero_mul, Nat.reduceAdd, Nat.reduceMul, Nat.reduceSub, Nat.min_eq_left, IntKind.bits, Nat.sub_zero, hrow]; try rfl; done))) | (((with_reducible apply q_eqL)); ((simp (disch := omega) only [upd_self, upd_ne, upd_upd, rep, splice, List.take_succ_cons, List.take_zero, List.drop_succ_cons, List.drop_zero, List.cons_append, List.nil_append, List.append_nil, List.length_cons, List.length_nil, List.reduceReplicate, List.flatten_cons, List.flatten_nil, Nat.reduceAdd, Nat.reduceMul, Nat.reduceSub, Nat.zero_add, Nat.add_zero, List.getElem?_cons_zero, List.getElem?_cons_succ, hrow]; try rfl; done))))
      refine ⟨fun m hm h => ?_, rfl⟩
      rcases Nat.lt_succ_iff_lt_or_eq.1 hm with h1 | rfl
      · exact ht m h1 h
      · exact hpb
  · rintro e' h' ⟨ht, he⟩
    cases he
    repeat' (first | (with_reducible first | refine W_seq ?_ | refine then_n ?_ | refine blk_e ?_ | refine W_ret ?_ | refine W_exit ?_ | refine then_e ?_) | ((with_reducible refine s_reg ?_); intro K hK) | ((with_reducible refine k_nil ?_); (with_reducible apply s_nil hK); (· exact nmX); clear hK; clear K) | ((with_reducible refine k_cond ?_); (((with_reducible apply s_condF); (· rfl); (· exact nmX)))) | ((with_reducible refine k_mv ?_); (refine s_mv rfl ?_)) | ((with_reducible refine k_lss ?_); (refine s_lss rfl rfl ?_)) | ((with_reducible refine k_br ?_); ((refine Br_f (by omega) ?_))))
    rw [firstI_no (fun m hm => ht m hm hm)]
    first | exact Fin_flat trivial rfl rfl | (refine Fin_tup trivial rfl ?_ (Nat.le_of_ble_eq_true rfl); (repeat (first | exact All2.nil | (apply All2.cons; (· first | exact exc_n | exact exc_e | exact exc_v rfl rfl | exact exc_o upd_self rfl rfl)))); done) | (refine Fin_own trivial rfl upd_self ?_ (Nat.le_of_ble_eq_true rfl); (repeat (first | exact All2.nil | (apply All2.cons; (· first | exact exc_n | exact exc_e | exact exc_v rfl rfl | exact exc_o upd_self rfl rfl)))); done) | exact Fin_nil trivial rfl | exact Fin_sl trivial rfl upd_self rfl rfl
theorem find_con {h : Heap} {k kF kC : Nat} {dO : D} {s : Sd} (H : StH h k kF kC dO s) (hl : s.out.length ≤ 1000000) (i : Int) {Q : D → Heap → Prop} (hQ : ∀ h2, (∀ j c, h j = some c → h2 j = some c) → Q (.int .i64 (firstI (isO i) s.out)) h2) : Con Try.prog 77 [.pt k 0, .int .i64 i] h Q := by
  refine con_of_W mixed Try.func77 A77k A77c (by simp [A77]) ?_
  simp only [A77, argEnv]
  have hst := H.st
  have c1 := pidx_c s.out hl i
  repeat' (first | (with_reducible first | refine W_seq ?_ | refine then_n ?_ | refine W_ret ?_) | ((with_reducible refine s_reg ?_); intro K hK) | ((with_reducible refine k_nil ?_); (with_reducible apply s_nil hK); (· exact nmX); clear hK; clear K) | ((with_reducible refine k_mv ?_); (refine s_mv rfl ?_)) | ((with_reducible refine k_load ?_); (((with_reducible apply s_loadP); (· rfl); (· (exact hpX))))) | ((with_reducible refine k_faddr ?_); (((with_reducible apply s_faddrP); (· rfl); (· rfl)))) | ((with_reducible refine k_box (dst := some 3) ?_); ((with_reducible apply s_box); (· rfl); (· rfl); intro k3 hk3; (try simp only [upd_none] at hk3))) | ((with_reducible refine k_mkfn ?_); ((with_reducible apply s_mkfn); (· rfl); (· rfl))) | ((with_reducible refine k_nilck ?_); (((with_reducible apply s_nilckP); (· rfl)))) | ((with_reducible refine k_callF ?_); (((with_reducible apply s_call1); (· rfl)))) | ((with_reducible refine k_con ?_); (((with_reducible apply con_val (c1)); (· (repeat (first | exact All2.nil | (apply All2.cons; (· first | exact H.outRd (by assumption) | exact (Rd_fnR All2.nil (All2.cons (Rd_ptR upd_self (All2.cons Rd_int All2.nil) (by simp)) All2.nil))))))); (· rfl); (· exact fun _ => rfl)))) | (((with_reducible apply q_eqO)); (exact liO)))
  all_goals first | (exfalso; omega) | skip
  exact ⟨trivial, _, rfl, hQ _ (upd_sub hk3)⟩
theorem latest_con {h : Heap} {k kF kC : Nat} {dO : D} {s : Sd} (H : StH h k kF kC dO s) (hl : s.firm.length ≤ 1000000) (hc : s.cache.length = s.firm.length) (hp : ∀ c, some c ∈ s.cache → 0 < c.length) (b : Nat) (hb : b < s.firm.length) : Con Try.prog 48 [.pt k 0, .int .i64 b] h (fun d h' => d = bD ((s.cache.getD b none).getD (s.firm.getD b [])) ∧ h' = h) := by
  refine con_of_W mixed Try.func48 A48k A48c (by simp [A48]) ?_
  simp only [A48, argEnv]
  have hst := H.st
  have hf := H.f
  have hcc := H.c
  have g1 : (s.firm.map bD)[b]? = some (bD (s.firm.getD b [])) := by rw [List.getElem?_map, List.getD_eq_getElem?_getD, List.getElem?_eq_getElem hb]; rfl
  cases hcb : s.cache.getD b none with
  | none =>
    have g2 : (s.cache.map cD)[b]? = some .nil := by rw [List.getElem?_map]; rw [List.getD_eq_getElem?_getD, List.getElem?_eq_getElem (by omega : b < s.cache.length)] at hcb; rw [List.getElem?_eq_getElem (by omega : b < s.cache.length)]; simp at hcb; rw [Option.map_some, hcb]; rfl
    generalize s.firm.getD b [] = x at *
    repeat' (first | (with_reducible first | refine W_seq ?_ | refine then_n ?_ | refine W_skip ?_ | refine W_ret ?_) | ((with_reducible refine s_reg ?_); intro K hK) | ((with_reducible refine k_nil ?_); (with_reducible apply s_nil hK); (· exact nmX); clear hK; clear K) | ((with_reducible refine k_cond ?_); (((with_reducible apply s_condF); (· rfl); (· exact nmX)))) | ((with_reducible refine k_mv ?_); (refine s_mv rfl ?_)) | ((with_reducible refine k_iaddr ?_); (((with_reducible apply s_iaddrO); (· rfl); (· rfl); (· (omega)); (· (exact hpX))))) | ((with_reducible refine k_load ?_); (((with_reducible apply s_loadP); (· rfl); (· (exact hpX))))) | ((with_reducible refine k_faddr ?_); (((with_reducible apply s_faddrP); (· rfl); (· rfl)))) | ((with_reducible refine k_eqN ?_); (((with_reducible apply s_eqN); (· rfl); (· (rfl)); (· rfl)))) | ((with_reducible refine k_nilck ?_); (((with_reducible apply s_nilckP); (· rfl)))) | (((with_reducible apply q_eqN)); ((simp (disch := omega) only [w64, wu8, wu16, wu32, wu64, tm_nn, td_nn, fd_nn, Int.reduceAdd, Int.reduceSub, Int.reduceMul, Int.reduceDiv, Int.reduceMod, Int.reduceNeg, Int.reduceToNat, Int.toNat_natCast, Int.toNat_zero, Int.zero_add, Int.add_zero, Int.one_mul, Int.reducePow, Nat.mul_one, Nat.zero_add, Nat.add_zero, Nat.zero_mul, Nat.reduceAdd, Nat.reduceMul, Nat.reduceSub, Nat.min_eq_left, IntKind.bits, Nat.sub_zero, g1, g2]; try rfl; done))) | (((with_reducible apply q_eqO)); ((simp (disch := omega) only [upd_self, upd_ne, upd_upd, rep, splice, List.take_succ_cons, List.take_zero, List.drop_succ_cons, List.drop_zero, List.cons_append, List.nil_append, List.append_nil, List.length_cons, List.length_nil, List.reduceReplicate, List.flatten_cons, List.flatten_nil, Nat.reduceAdd, Nat.reduceMul, Nat.reduceSub, Nat.zero_add, Nat.add_zero, List.getElem?_cons_zero, List.getElem?_cons_succ, g1, g2]; try rfl; done))))
    all_goals first | (exfalso; omega) | exact ⟨trivial, _, rfl, rfl, rfl⟩
  | some c =>
    have hp1 : 0 < c.length := hp c (by rw [List.getD_eq_getElem?_getD, List.getElem?_eq_getElem (by omega : b < s.cache.length)] at hcb; simp at hcb; rw [← hcb]; exact List.getElem_mem _)
    have g2 : (s.cache.map cD)[b]? = some (bD c) := by rw [List.getElem?_map]; rw [List.getD_eq_getElem?_getD, List.getElem?_eq_getElem (by omega : b < s.cache.length)] at hcb; rw [List.getElem?_eq_getElem (by omega : b < s.cache.length)]; simp at hcb; rw [Option.map_some, hcb]; rfl
    repeat' (first | (with_reducible first | refine W_seq ?_ | refine then_n ?_ | refine W_ret ?_ | refine then_r ?_) | ((with_reducible refine s_reg ?_); intro K hK) | ((with_reducible refine k_nil ?_); (with_reducible apply s_nil hK); (· exact nmX); clear hK; clear K) | ((with_reducible refine k_cond ?_); (((with_reducible apply s_condT); (· rfl); (· exact nmX)))) | ((with_reducible refine k_mv ?_); (refine s_mv rfl ?_)) | ((with_reducible refine k_iaddr ?_); (((with_reducible apply s_iaddrO); (· rfl); (· rfl); (· (omega)); (· (exact hpX))))) | ((with_reducible refine k_load ?_); (((with_reducible apply s_loadP); (· rfl); (· (exact hpX))))) | ((with_reducible refine k_faddr ?_); (((with_reducible apply s_faddrP); (· rfl); (· rfl)))) | ((with_reducible refine k_eqN ?_); (((with_reducible apply s_eqN); (· rfl); (· (exact isNil_vs (by omega))); (· rfl)))) | ((with_reducible refine k_nilck ?_); (((with_reducible apply s_nilckP); (· rfl)))) | (((with_reducible apply q_eqN)); ((simp (disch := omega) only [w64, wu8, wu16, wu32, wu64, tm_nn, td_nn, fd_nn, Int.reduceAdd, Int.reduceSub, Int.reduceMul, Int.reduceDiv, Int.reduceMod, Int.reduceNeg, Int.reduceToNat, Int.toNat_natCast, Int.toNat_zero, Int.zero_add, Int.add_zero, Int.one_mul, Int.reducePow, Nat.mul_one, Nat.zero_add, Nat.add_zero, Nat.zero_mul, Nat.reduceAdd, Nat.reduceMul, Nat.reduceSub, Nat.min_eq_left, IntKind.bits, Nat.sub_zero, g1, g2]; try rfl; done))) | (((with_reducible apply q_eqO)); ((simp (disch := omega) only [upd_self, upd_ne, upd_upd, rep, splice, List.take_succ_cons, List.take_zero, List.drop_succ_cons, List.drop_zero, List.cons_append, List.nil_append, List.append_nil, List.length_cons, List.length_nil, List.reduceReplicate, List.flatten_cons, List.flatten_nil, Nat.reduceAdd, Nat.reduceMul, Nat.reduceSub, Nat.zero_add, Nat.add_zero, List.getElem?_cons_zero, List.getElem?_cons_succ, g1, g2]; try rfl; done))))
    all_goals first | (exfalso; omega) | exact ⟨trivial, _, rfl, rfl, rfl⟩
end Go.Proofs.Ythblalidmmbcoaa
end
section
/- min -/
/- What an event's error is; an outstanding write is taken out. -/
set_option linter.unusedSimpArgs false
set_option linter.unusedVariables false
namespace Go.Proofs.Ythblalidmmbcoaa
open Go.AM Classical
set_option maxRecDepth 100000
set_option maxHeartbeats 4000000
theorem wrong_con {h : Heap} {k kF kC kM : Nat} {dO : D} {s : Sd} {ids : List Int} (H : StH h k kF kC dO s) (hM : h kM = some [.mpc ids]) (hl : s.out.length ≤ 1000000) (hf : s.firm.length ≤ 1000000) (x : Ev) (hid : -9223372036854775808 ≤ x.id ∧ x.id ≤ 9223372036854775807) {Q : D → Heap → Prop} (hQ : ∀ h2, (∀ j c, h j = some c → h2 j = some c) → Q (.int .i64 (wroS s ids x)) h2) :
    Con Try.prog 66 [.pt k 0, .agg x.cells, .mp kM] h Q := by
  refine con_of_W mixed Try.func66 A66k A66c (by simp [A66]) ?_
  simp only [A66, argEnv]
  have hst := H.st
  unfold wroS at hQ
  obtain ⟨kind, id, block, data⟩ := x
  dsimp only [Ev.cells] at *
  have hdl : (data.length : Int) ≥ 0 := by omega
  have fin : ∀ {h2 : Heap} {n : Int}, (∀ j c, h j = some c → h2 j = some c) → (if kind = 1 then (if block < 0 ∨ s.firm.length ≤ block then 2 else if data.length ≠ 32 then 3 else if id ∈ ids then 7 else 0) else if kind = 2 then (if block ≠ 0 ∨ data.length ≠ 0 then 1 else if firstI (isO id) s.out < 0 then 6 else 0) else if kind = 3 then (if id ≠ 0 ∨ block ≠ 0 ∨ data.length ≠ 0 then 1 else 0) else (1 : Int)) = n → Q (.int .i64 n) h2 := fun hs hn => by rw [← hn]; exact hQ _ hs
  repeat' (first | (with_reducible first | refine W_seq ?_ | refine then_n ?_ | refine W_block ?_ | refine blk_n ?_ | refine blk_r ?_ | refine W_skip ?_ | refine W_ret ?_ | refine then_r ?_) | ((with_reducible refine s_reg ?_); intro K hK) | ((with_reducible refine k_nil ?_); (with_reducible apply s_nil hK); (· exact nmX); clear hK; clear K) | ((with_reducible refine k_cond ?_); (first | ((with_reducible apply s_condT); (· rfl); (· exact nmX)) | ((with_reducible apply s_condF); (· rfl); (· exact nmX)) | ((with_reducible apply s_condS); (· rfl); (· exact nmX); (· exact nmX)))) | ((with_reducible refine k_guard ?_); (first | (refine s_gt rfl ?_) | (refine s_gf1 rfl ?_))) | ((with_reducible refine k_mv ?_); (refine s_mv rfl ?_)) | ((with_reducible refine k_len ?_); ((refine s_len rfl rfl ?_))) | ((with_reducible refine k_pick ?_); (first | (refine s_pickT rfl rfl ?_) | (refine s_pickF rfl rfl ?_))) | ((with_reducible refine k_eql ?_); ((refine s_eql rfl rfl ?_))) | ((with_reducible refine k_neq ?_); ((refine s_neq rfl rfl ?_))) | ((with_reducible refine k_lss ?_); (refine s_lss rfl rfl ?_)) | ((with_reducible refine k_geq ?_); (refine s_geq rfl rfl ?_)) | ((with_reducible refine k_load ?_); (((with_reducible apply s_loadP); (· rfl); (· (exact hpX))))) | ((with_reducible refine k_faddr ?_); (((with_reducible apply s_faddrP); (· rfl); (· rfl)))) | ((with_reducible refine k_box (dst := some 4) ?_); ((with_reducible apply s_box); (· rfl); (· rfl); intro k4 hk4; (try simp only [upd_none] at hk4))) | ((with_reducible refine k_mapHas ?_); ((with_reducible apply s_mapHas); (· rfl); (· rfl); (· (exact hpX)); (· (omega)))) | ((with_reducible refine k_nilck ?_); (((with_reducible apply s_nilckP); (· rfl)))) | ((with_reducible refine k_callF ?_); (((with_reducible apply s_call1); (· rfl)))) | ((with_reducible refine k_con ?_); ((refine find_con (H.mono (upd_sub (by assumption))) hl _ ?_; intro h2 hh2))) | ((with_reducible refine k_dreg ?_); refine s_dreg rfl rfl ?_; intro K hK) | ((with_reducible refine k_dnil ?_); (with_reducible apply d_nil hK); (· exact nmX); clear hK; clear K) | ((with_reducible refine k_dguard ?_); (first | (refine d_gt rfl ?_) | (refine d_gf rfl ?_))) | ((with_reducible refine k_dop ?_); refine d_step (by first | exact Or.inl rfl | exact Or.inr rfl) ?_) | (with_reducible refine d_back ?_) | ((with_reducible refine k_br ?_); (first | (with_reducible refine Br_dec ?_) | (with_reducible apply Br_s <;> intro hbr))) | (((with_reducible apply q_eqO)); (exact liO)))
  all_goals first | (exfalso; omega) | skip
  all_goals first
    | exact ⟨trivial, _, rfl, fin (upd_sub (by assumption)) (by (repeat' split) <;> first | rfl | omega | contradiction)⟩
    | exact ⟨trivial, _, rfl, fin (fun j c hj => hh2 j c (upd_sub (by assumption) j c hj)) (by (repeat' split) <;> first | rfl | omega | contradiction)⟩
theorem s_appIn {P : Program} {e : Env} {h : Heap} {r : List AIns} {K : Env → Heap → Prop} {t : Nat} {sz bytes n m n' k off : Nat} {x y : O} {dy : D} {c c' new : List D} (h1 : evO (AM.get e) x = some (.sl k sz off n)) (h2 : evO (AM.get e) y = some dy) (hk : h k = some c) (hy : lenA dy = some m) (hs : srcD h sz m dy = some new) (hb : off + (n + m) * sz ≤ c.length) (hl : new.length = m * sz) (hc : splice c (off + n * sz) new = c') (hn : n + m = n') (hw : Wops P r ((t, .sl k sz off n') :: e) (AM.upd h k c') K) : Wops P (⟨some t, .append sz bytes x y, none⟩ :: r) e h K := by
  subst hn
  refine s_append h1 h2 fun kk _ => ?_
  by_cases hm : m = 0
  · subst hm
    refine ⟨.sl k sz off n, h, ?_, ?_⟩
    · simp [appD, hy, hs, hk]
    · have e1 : AM.upd h k c' = h := by
        have hn0 : new = [] := List.length_eq_zero_iff.1 (by rw [hl]; simp)
        subst hc hn0
        funext j
        unfold AM.upd splice
        split
        · rename_i hj; subst hj; simp [hk]
        · rfl
      rw [e1] at hw
      simpa using hw
  · refine ⟨_, _, ?_, hw⟩
    simp [appD, hy, hs, hk, hm, hb, hc]
theorem fm_take {α : Type} {f : α → List D} {w : Nat} (hf : ∀ a, (f a).length = w) {l : List α} {i : Nat} (hi : i ≤ l.length) : (l.flatMap f).take (i * w) = (l.take i).flatMap f := by
  have h1 : l = l.take i ++ l.drop i := (List.take_append_drop i l).symm
  have h2 : ((l.take i).flatMap f).length = i * w := by rw [fm_len hf, List.length_take, Nat.min_eq_left hi]
  conv => lhs; rw [h1, List.flatMap_append]
  rw [List.take_append_of_le_length (by omega), List.take_of_length_le (by omega)]
theorem wrs_erase {q : List Wr} {i : Nat} (hi : i < q.length) : (q.eraseIdx i).flatMap Wr.cells = (q.flatMap Wr.cells).take (i * 3) ++ (q.flatMap Wr.cells).drop ((i + 1) * 3) := by
  rw [List.eraseIdx_eq_take_drop_succ, List.flatMap_append, fm_take Wr.cells_len (by omega), fm_drop Wr.cells_len]
theorem werase_take {q : List Wr} {i : Nat} (hi : i < q.length) {tl c1 : List D} (hc : splice (q.flatMap Wr.cells ++ tl) (0 + i * 3) ((((q.flatMap Wr.cells) ++ tl).drop ((i + 1) * 3)).take ((q.length - (i + 1)) * 3)) = c1) : c1.length = q.length * 3 + tl.length ∧ c1.take ((q.length - 1) * 3) = (q.eraseIdx i).flatMap Wr.cells := by
  have hal := wrs_len q
  have hnl : (((q.flatMap Wr.cells ++ tl).drop ((i + 1) * 3)).take ((q.length - (i + 1)) * 3)) = (q.flatMap Wr.cells).drop ((i + 1) * 3) := by
    rw [List.drop_append_of_le_length (by omega), List.take_append_of_le_length (by rw [List.length_drop]; omega), List.take_of_length_le (by rw [List.length_drop]; omega)]
  rw [hnl] at hc
  subst hc
  constructor
  · rw [length_splice (by rw [List.length_drop, List.length_append]; omega), List.length_append, hal]
  · rw [wrs_erase hi]
    unfold splice
    rw [Nat.zero_add, List.take_append_of_le_length (l₁ := q.flatMap Wr.cells) (by omega)]
    rw [List.take_append_of_le_length (by simp [hal]; omega), List.take_of_length_le (by simp [hal]; omega)]
theorem pdel_con {q : List Wr} {i : Nat} (hi : i < q.length) (hl : q.length ≤ 1000000) {h : Heap} {k t : Nat} {tl : List D} (hk : h k = some (q.flatMap Wr.cells ++ tl)) (ht : tl.length = t * 3) {Q : D → Heap → Prop}
    (hQ : ∀ tl', tl'.length = (t + 1) * 3 → Q (.sl k 3 0 (q.length - 1)) (AM.upd h k ((q.eraseIdx i).flatMap Wr.cells ++ tl'))) :
    Con Try.prog 78 [.sl k 3 0 q.length, .int .i64 i, .int .i64 ((i : Int) + 1)] h Q := by
  refine con_of_W mixed Try.func78 A78k A78c (by simp [A78]) ?_
  simp only [A78, argEnv]
  have hal := wrs_len q
  have hcl : (q.flatMap Wr.cells ++ tl).length = q.length * 3 + t * 3 := by rw [List.length_append, hal, ht]
  rw [show ((i : Int) + 1) = ((i + 1 : Nat) : Int) from rfl]
  repeat' (first | (with_reducible first | refine W_seq ?_ | refine then_n ?_ | refine W_skip ?_) | ((with_reducible refine s_reg ?_); intro K hK) | ((with_reducible refine k_nil ?_); (with_reducible apply s_nil hK); (· exact nmX); clear hK; clear K) | ((with_reducible refine k_cond ?_); (((with_reducible apply s_condF); (· rfl); (· exact nmX)))) | ((with_reducible refine k_mv ?_); (refine s_mv rfl ?_)) | ((with_reducible refine k_len ?_); ((refine s_len rfl rfl ?_))) | ((with_reducible refine k_eql ?_); ((refine s_eql rfl rfl ?_))) | ((with_reducible refine k_slice3 ?_); ((with_reducible apply s_slice3); (· rfl); (· ((apply b_some; (· rfl); (· omega); (· (exact nuN))))); (· ((apply b_some; (· rfl); (· omega); (· (exact nuN))))); (· ((apply b_some; (· rfl); (· omega); (· (exact nuN))))); (· (exact ⟨by omega, by omega, by omega⟩)))) | ((with_reducible refine k_slice ?_); (((with_reducible apply s_sliceO); (· rfl); (· (first | exact b_none | (apply b_some; (· rfl); (· omega); (· (exact nuN))))); (· (first | exact b_none | (apply b_some; (· rfl); (· omega); (· (exact nuN))))); (· (omega))))) | ((with_reducible refine k_dreg ?_); refine W_dregM (pre := A78d6a) (suf := A78d6b) rfl rfl rfl rfl ?_; intro K hK) | (with_reducible refine d_nilS ?_) | ((with_reducible refine k_dop ?_); refine d_step (by exact Or.inl rfl) ?_) | (with_reducible refine d_back ?_) | ((with_reducible refine k_br ?_); ((refine Br_f (by omega) ?_))) | (((with_reducible apply q_eqN)); (exact nuN)))
  all_goals first | (exfalso; omega) | skip
  obtain ⟨c1, hc1⟩ : ∃ c1, splice (q.flatMap Wr.cells ++ tl) (0 + i * 3) (((q.flatMap Wr.cells ++ tl).drop ((i + 1) * 3)).take ((q.length - (i + 1)) * 3)) = c1 := ⟨_, rfl⟩
  obtain ⟨e1, e2⟩ := werase_take hi hc1
  refine s_appIn (n' := q.length - 1) rfl rfl hk rfl (new := ((q.flatMap Wr.cells ++ tl).drop ((i + 1) * 3)).take ((q.length - (i + 1)) * 3)) ?_ (by omega) (by rw [List.length_take, List.length_drop, hcl]; omega) hc1 (by omega) ?_
  · simp only [srcD, hk, true_and]
    rw [if_pos (Nat.le_refl _), if_pos (by omega)]
  repeat' (first | (with_reducible first | refine W_seq ?_ | refine then_n ?_ | refine W_ret ?_) | ((with_reducible refine s_reg ?_); intro K hK) | ((with_reducible refine k_nil ?_); (with_reducible apply s_nil hK); (· exact nmX); clear hK; clear K) | ((with_reducible refine k_mv ?_); (refine s_mv rfl ?_)) | ((with_reducible refine k_len ?_); ((refine s_len rfl rfl ?_))) | ((with_reducible refine k_sliceM ?_); ((with_reducible apply s_sliceM); (· rfl); (· (exact hpX)); (· ((apply b_some; (· rfl); (· omega); (· (exact nuN))))); (· ((apply b_some; (· rfl); (· omega); (· (exact nuN))))); (· (exact ⟨by decide, by omega, by omega⟩)))) | ((with_reducible refine k_clear ?_); ((with_reducible apply s_clear); (· rfl); (· (exact hpX)); (· (omega)); (· ((exact liL))); (· (exact upd_upd)))) | (((with_reducible apply q_eqN)); (exact nuN)))
  all_goals first | (exfalso; omega) | skip
  rw [show q.length - (q.length - 1) = 1 by omega, show (List.replicate 1 [D.int .i64 0, D.int .i64 0, D.nil]).flatten = [D.int .i64 0, D.int .i64 0, D.nil] from rfl, e2, List.append_assoc]
  exact ⟨trivial, _, rfl, hQ _ (by rw [List.length_append, List.length_drop, e1, ht]; simp only [List.length_cons, List.length_nil]; omega)⟩
def fluG (s : Sd) : Nat → List Bs × List (Option Bs)
  | 0 => (s.firm, s.cache)
  | i + 1 => match s.cache.getD i none with | some c => ((fluG s i).1.set i c, (fluG s i).2.set i none) | none => fluG s i
theorem fluG_len (s : Sd) : ∀ i, (fluG s i).1.length = s.firm.length ∧ (fluG s i).2.length = s.cache.length
  | 0 => ⟨rfl, rfl⟩
  | i + 1 => by
    have := fluG_len s i
    unfold fluG
    split
    · simpa using this
    · exact this
theorem fluG_1 (s : Sd) (j : Nat) : ∀ i, (fluG s i).1[j]? = if j < i then (s.firm[j]?).map (fun f => (s.cache.getD j none).getD f) else s.firm[j]?
  | 0 => by simp [fluG]
  | i + 1 => by
    have ih := fluG_1 s j i
    have hl := (fluG_len s i).1
    unfold fluG
    split
    · rename_i c hc
      rw [List.getElem?_set]
      by_cases hj : i = j
      · subst hj
        rw [if_pos rfl, hl]
        by_cases hi : i < s.firm.length
        · rw [if_pos hi, if_pos (Nat.lt_succ_self i), hc, List.getElem?_eq_getElem hi]; rfl
        · rw [if_neg hi, if_pos (Nat.lt_succ_self i), List.getElem?_eq_none (by omega)]; rfl
      · rw [if_neg hj, ih]
        by_cases h1 : j < i
        · rw [if_pos h1, if_pos (by omega)]
        · rw [if_neg h1, if_neg (by omega)]
    · rename_i hc
      rw [ih]
      by_cases h1 : j < i
      · rw [if_pos h1, if_pos (by omega)]
      · rw [if_neg h1]
        by_cases hj : j = i
        · subst hj; rw [if_pos (by omega), hc]; cases s.firm[j]? <;> rfl
        · rw [if_neg (by omega)]
theorem fluG_2 (s : Sd) (j : Nat) : ∀ i, (fluG s i).2[j]? = if j < i then (s.cache[j]?).map (fun _ => none) else s.cache[j]?
  | 0 => by simp [fluG]
  | i + 1 => by
    have ih := fluG_2 s j i
    have hl := (fluG_len s i).2
    unfold fluG
    split
    · rename_i c hc
      rw [List.getElem?_set]
      by_cases hj : i = j
      · subst hj
        rw [if_pos rfl, hl]
        by_cases hi : i < s.cache.length
        · rw [if_pos hi, if_pos (Nat.lt_succ_self i), List.getElem?_eq_getElem hi]; rfl
        · rw [if_neg hi, if_pos (Nat.lt_succ_self i), List.getElem?_eq_none (by omega)]; rfl
      · rw [if_neg hj, ih]
        by_cases h1 : j < i
        · rw [if_pos h1, if_pos (by omega)]
        · rw [if_neg h1, if_neg (by omega)]
    · rename_i hc
      rw [ih]
      by_cases h1 : j < i
      · rw [if_pos h1, if_pos (by omega)]
      · rw [if_neg h1]
        by_cases hj : j = i
        · subst hj
          rw [if_pos (by omega)]
          rw [List.getD_eq_getElem?_getD] at hc
          cases h2 : s.cache[j]? with
          | none => rfl
          | some x => rw [h2] at hc; simp at hc; rw [hc]; rfl
        · rw [if_neg (by omega)]
theorem fluG_end {s : Sd} (hl : s.cache.length = s.firm.length) : (fluG s s.cache.length).1 = (fluS s).firm ∧ (fluG s s.cache.length).2 = (fluS s).cache := by
  constructor
  · apply List.ext_getElem?
    intro j
    rw [fluG_1]
    show _ = (List.zipWith _ _ _)[j]?
    rw [List.getElem?_zipWith]
    by_cases h : j < s.cache.length
    · rw [if_pos h, List.getElem?_eq_getElem h, List.getElem?_eq_getElem (by omega : j < s.firm.length), List.getD_eq_getElem?_getD, List.getElem?_eq_getElem h]; rfl
    · rw [if_neg h, List.getElem?_eq_none (by omega : s.firm.length ≤ j)]
  · apply List.ext_getElem?
    intro j
    rw [fluG_2]
    show _ = (List.map _ _)[j]?
    rw [List.getElem?_map]
    by_cases h : j < s.cache.length
    · rw [if_pos h]
    · rw [if_neg h, List.getElem?_eq_none (by omega : s.cache.length ≤ j)]; rfl
theorem set_cN {C : List (Option Bs)} {b : Nat} (hb : b < C.length) : splice (C.map cD) b [.nil] = (C.set b none).map cD := by
  rw [splice_set (by simpa using hb), List.map_set]; rfl
theorem set_bD {F : List Bs} {b : Nat} {c : Bs} (hb : b < F.length) : splice (F.map bD) b [bD c] = (F.set b c).map bD := by
  rw [splice_set (by simpa using hb), List.map_set]
theorem set_cD {C : List (Option Bs)} {b : Nat} {c : Bs} (hb : b < C.length) : splice (C.map cD) b [bD c] = (C.set b (some c)).map cD := by
  rw [splice_set (by simpa using hb), List.map_set]; rfl
theorem apply_con {h : Heap} {k kF kC : Nat} {dO : D} {s : Sd} {ids : List Int} (H : StH h k kF kC dO s) (hl : s.out.length ≤ 1000) (hf : s.firm.length ≤ 1000000) (hcl : s.cache.length = s.firm.length) (hp : ∀ c, some c ∈ s.cache → 0 < c.length) (hw : ∀ w ∈ s.out, 0 ≤ w.block ∧ w.block < s.firm.length) (x : Ev) (he : wroS s ids x = 0)
    {Q : D → Heap → Prop} (hQ : ∀ h2 dO', StH h2 k kF kC dO' (appS s x) → (∀ j c, h j = some c → Away k kF kC dO j → h2 j = some c ∧ Away k kF kC dO' j) → Q (.tup []) h2) :
    Con Try.prog 67 [.pt k 0, .agg x.cells] h Q := by
  refine con_of_W mixed Try.func67 A67k A67c (by simp [A67]) ?_
  simp only [A67, argEnv]
  have hst := H.st
  have hF := H.f
  have hC := H.c
  obtain ⟨ne1, ne2, ne3⟩ := H.ne
  obtain ⟨kind, id, block, data⟩ := x
  unfold wroS at he
  unfold appS at hQ
  dsimp only [Ev.cells] at *
  by_cases h1 : kind = 1
  · rw [if_pos h1] at hQ
    subst h1
    have hop := H.o
    repeat' (first | (with_reducible first | refine W_seq ?_ | refine then_n ?_ | refine W_block ?_) | ((with_reducible refine s_reg ?_); intro K hK) | ((with_reducible refine k_nil ?_); (with_reducible apply s_nil hK); (· exact nmX); clear hK; clear K) | ((with_reducible refine k_cond ?_); (((with_reducible apply s_condT); (· rfl); (· exact nmX)))) | ((with_reducible refine k_mv ?_); (refine s_mv rfl ?_)) | ((with_reducible refine k_eql ?_); ((refine s_eql rfl rfl ?_))) | ((with_reducible refine k_load ?_); (((with_reducible apply s_loadP); (· rfl); (· (exact hpX))))) | ((with_reducible refine k_faddr ?_); (((with_reducible apply s_faddrP); (· rfl); (· rfl)))) | ((with_reducible refine k_box (dst := some 3) ?_); ((with_reducible apply s_box); (· rfl); (· rfl); intro k3 hk3; (try simp only [upd_none] at hk3))) | ((with_reducible refine k_build ?_); ((with_reducible apply s_build); (· rfl); (· rfl))) | ((with_reducible refine k_buildS (dst := some 23) ?_); ((with_reducible apply s_buildS); (· rfl); (· (exact ⟨rfl, by decide⟩)); (· ((simp only [fillB, rep, splice, List.reduceReplicate, List.flatten_cons, List.flatten_nil, List.cons_append, List.nil_append, List.append_nil, List.length_cons, List.length_nil, Nat.reduceAdd, Nat.reduceMul, Nat.reduceLeDiff, Nat.reduceEqDiff, eq_self, Nat.le_refl, Nat.zero_add, and_self, and_true, true_and, if_true, List.take_zero, List.take_succ_cons, List.drop_zero, List.drop_succ_cons, List.drop_nil, List.take_nil]; rfl))); intro k23 hk23; (try simp only [upd_none] at hk23))) | ((with_reducible refine k_nilck ?_); (((with_reducible apply s_nilckP); (· rfl)))) | ((with_reducible refine k_dreg ?_); refine W_dregM (pre := A67d4a) (suf := A67d4b) rfl rfl rfl rfl ?_; intro K hK) | (with_reducible refine d_nilS ?_) | ((with_reducible refine k_dop ?_); refine d_step (by first | exact Or.inl rfl | exact Or.inr rfl) ?_) | (with_reducible refine d_back ?_) | ((with_reducible refine k_br ?_); ((refine Br_t (by with_reducible rfl) ?_))) | (((with_reducible apply q_eqO)); (exact liO)))
    all_goals first | (exfalso; omega) | skip
    have hold : ∀ j c, h j = some c → upd (upd h k3 [D.int .i64 1, .int .i64 id, .int .i64 block, bD data]) k23 [.int .i64 id, .int .i64 block, bD data] j = some c := fun j c hj => upd_sub (by rw [upd_ne hk23.1]; exact hk23.2) j c (upd_sub hk3 j c hj)
    refine s_appP rfl rfl (hop.mono fun j c hj _ => hold j c hj) rfl (srcD_sl upd_self rfl) ⟨rfl, by decide⟩ (by rw [room_n]; omega) fun dO' ha hso hoth => ?_
    have hno := H.no
    obtain ⟨a1, a2⟩ := hoth k _ (hold _ _ hst) (fun sz off n => (hno sz off n).1)
    obtain ⟨b1, b2⟩ := hoth kF _ (hold _ _ hF) (fun sz off n => (hno sz off n).2.1)
    obtain ⟨c1, c2⟩ := hoth kC _ (hold _ _ hC) (fun sz off n => (hno sz off n).2.2)
    obtain ⟨kO, tl, t, rfl, hO, ht⟩ := hso.pos (by omega)
    repeat' (first | (with_reducible refine blk_n ?_) | ((with_reducible refine k_nil ?_); (with_reducible apply s_nil hK); (· exact nmX); clear hK; clear K) | ((with_reducible refine k_store ?_); ((with_reducible apply s_store0); (· rfl); (· rfl); (· rfl); (· (exact hpX)); (· (exact ⟨rfl, by exact Nat.le_of_ble_eq_true rfl⟩)); (· ((exact liL))); (· (rfl)))) | ((with_reducible refine k_faddr ?_); (((with_reducible apply s_faddrP); (· rfl); (· rfl)))) | ((with_reducible refine k_nilck ?_); (((with_reducible apply s_nilckP); (· rfl)))))
    all_goals first | (exfalso; omega) | skip
    refine con_end rfl (hQ _ (.sl kO 3 0 (s.out.length + 1)) ⟨upd_self, by rw [upd_ne ne1]; exact b1, by rw [upd_ne ne2]; exact c1, ?_, ⟨ne1, ne2, ne3⟩, fun sz off n => ⟨a2 sz off n, b2 sz off n, c2 sz off n⟩⟩ ?_)
    · have e1 : (s.out ++ [Ev.wr ⟨1, id, block, data⟩]).flatMap Wr.cells = s.out.flatMap Wr.cells ++ [.int .i64 id, .int .i64 block, bD data] := by rw [List.flatMap_append]; rfl
      show SlPre _ (.sl kO 3 0 (s.out.length + 1)) 3 ((s.out ++ [Ev.wr ⟨1, id, block, data⟩]).flatMap Wr.cells) (s.out ++ [Ev.wr ⟨1, id, block, data⟩]).length
      rw [e1, List.length_append, List.length_singleton]
      exact hso.mono fun j c hj ⟨sz, off, n, hd⟩ => by rw [upd_ne (fun e => a2 sz off n (by rw [← e]; exact hd))]; exact hj
    · intro j c hj ⟨j1, j2, j3, j4⟩
      obtain ⟨d1, d2⟩ := hoth j c (hold j c hj) j4
      exact ⟨by rw [upd_ne j1]; exact d1, j1, j2, j3, d2⟩
  · by_cases h2 : kind = 2
    · rw [if_neg h1, if_pos h2] at hQ he
      subst h2
      have hfi : 0 ≤ firstI (isO id) s.out := by
        split at he
        · cases he
        · split at he
          · cases he
          · omega
      obtain ⟨hkl, hid, -⟩ := firstI_sp hfi
      have hfe : firstI (isO id) s.out = (((firstI (isO id) s.out).toNat : Nat) : Int) := by omega
      have hdone : appS s ⟨2, id, block, data⟩ = doneS s id := by rw [appS]; rfl
      rw [doneS, List.getElem?_eq_getElem hkl] at hQ
      have fc := fun {h2 : Heap} {Q2 : D → Heap → Prop} (hh : ∀ j c, h j = some c → h2 j = some c) (q : ∀ h3, (∀ j c, h2 j = some c → h3 j = some c) → Q2 (.int .i64 (firstI (isO id) s.out)) h3) => find_con (H.mono hh) (by omega) id q
      rw [hfe] at fc
      generalize (firstI (isO id) s.out).toNat = m at *
      obtain ⟨kO, tl, t, rfl, hO, ht⟩ := H.o.pos (by omega)
      obtain ⟨hb1, hb2⟩ := hw s.out[m] (List.getElem_mem _)
      have g1 : (s.out.flatMap Wr.cells ++ tl)[m * 3 + 1]? = some (.int .i64 s.out[m].block) := by rw [List.getElem?_append_left (by rw [wrs_len]; omega)]; exact wr1 hkl
      have g2 : (s.out.flatMap Wr.cells ++ tl)[m * 3 + 2]? = some (bD s.out[m].data) := by rw [List.getElem?_append_left (by rw [wrs_len]; omega)]; exact wr2 hkl
      have hno := H.no
      repeat' (first | (with_reducible first | refine W_seq ?_ | refine then_n ?_ | refine W_block ?_) | ((with_reducible refine s_reg ?_); intro K hK) | ((with_reducible refine k_nil ?_); (with_reducible apply s_nil hK); (· exact nmX); clear hK; clear K) | ((with_reducible refine k_cond ?_); (first | ((with_reducible apply s_condT); (· rfl); (· exact nmX)) | ((with_reducible apply s_condF); (· rfl); (· exact nmX)))) | ((with_reducible refine k_mv ?_); (refine s_mv rfl ?_)) | ((with_reducible refine k_eql ?_); ((refine s_eql rfl rfl ?_))) | ((with_reducible refine k_iaddr ?_); (((with_reducible apply s_iaddrO); (· rfl); (· rfl); (· (omega)); (· (exact hpX))))) | ((with_reducible refine k_load ?_); (((with_reducible apply s_loadP); (· rfl); (· (exact hpX))))) | ((with_reducible refine k_add ?_); ((with_reducible apply s_add); (· rfl); (· rfl))) | ((with_reducible refine k_store ?_); ((with_reducible apply s_store0); (· rfl); (· rfl); (· rfl); (· (exact hpX)); (· (exact ⟨rfl, by (simp [g1, g2]; omega)⟩)); (· (((simp (disch := omega) only [upd_self, upd_ne, upd_upd, rep, splice, List.take_succ_cons, List.take_zero, List.drop_succ_cons, List.drop_zero, List.cons_append, List.nil_append, List.append_nil, List.length_cons, List.length_nil, List.reduceReplicate, List.flatten_cons, List.flatten_nil, Nat.reduceAdd, Nat.reduceMul, Nat.reduceSub, Nat.zero_add, Nat.add_zero, List.getElem?_cons_zero, List.getElem?_cons_succ, g1, g2]; try rfl; done)))); (· (rfl)))) | ((with_reducible refine k_faddr ?_); (((with_reducible apply s_faddrP); (· rfl); (· rfl)))) | ((with_reducible refine k_box (dst := some 3) ?_); ((with_reducible apply s_box); (· rfl); (· rfl); intro k3 hk3; (try simp only [upd_none] at hk3))) | ((with_reducible refine k_nilck ?_); (((with_reducible apply s_nilckP); (· rfl)))) | ((with_reducible refine k_callF ?_); (((with_reducible apply s_call1); (· rfl)))) | ((with_reducible refine k_con ?_); ((refine fc (upd_sub (by assumption)) ?_; intro h3 hh3; have t1 := hh3 _ _ (upd_sub (by assumption) _ _ hst); have t2 := hh3 _ _ (upd_sub (by assumption) _ _ hF); have t3 := hh3 _ _ (upd_sub (by assumption) _ _ hC); have t4 := hh3 _ _ (upd_sub (by assumption) _ _ hO)))) | ((with_reducible refine k_dreg ?_); refine s_dregS (pre := A67d8p) rfl rfl rfl ?_; intro K hK) | (with_reducible refine d_nilS ?_) | ((with_reducible refine k_dop ?_); refine d_step (by first | exact Or.inl rfl | exact Or.inr rfl) ?_) | (with_reducible refine d_back ?_) | ((with_reducible refine k_br ?_); (first | (refine Br_t (by with_reducible rfl) ?_) | (refine Br_f (by omega) ?_))) | ((first | (with_reducible apply q_eqI) | (with_reducible apply q_eqN)); ((simp (disch := omega) only [w64, wu8, wu16, wu32, wu64, tm_nn, td_nn, fd_nn, Int.reduceAdd, Int.reduceSub, Int.reduceMul, Int.reduceDiv, Int.reduceMod, Int.reduceNeg, Int.reduceToNat, Int.toNat_natCast, Int.toNat_zero, Int.zero_add, Int.add_zero, Int.one_mul, Int.reducePow, Nat.mul_one, Nat.zero_add, Nat.add_zero, Nat.zero_mul, Nat.reduceAdd, Nat.reduceMul, Nat.reduceSub, Nat.min_eq_left, IntKind.bits, Nat.sub_zero, g1, g2]; try rfl; done))) | (((with_reducible apply q_eqO)); ((simp (disch := omega) only [upd_self, upd_ne, upd_upd, rep, splice, List.take_succ_cons, List.take_zero, List.drop_succ_cons, List.drop_zero, List.cons_append, List.nil_append, List.append_nil, List.length_cons, List.length_nil, List.reduceReplicate, List.flatten_cons, List.flatten_nil, Nat.reduceAdd, Nat.reduceMul, Nat.reduceSub, Nat.zero_add, Nat.add_zero, List.getElem?_cons_zero, List.getElem?_cons_succ, g1, g2]; try rfl; done))))
      all_goals first | (exfalso; omega) | skip
      have hOk : kO ≠ k := fun e => (hno 3 0 s.out.length).1 (by rw [e])
      have hOF : kO ≠ kF := fun e => (hno 3 0 s.out.length).2.1 (by rw [e])
      have hOC : kO ≠ kC := fun e => (hno 3 0 s.out.length).2.2 (by rw [e])
      have hbl : s.out[m].block.toNat < s.cache.length := by omega
      have hset := set_cD (c := s.out[m].data) hbl
      unfold splice at hset
      rw [List.length_singleton] at hset
      rw [hset]
      refine pdel_con hkl (by omega) (by rw [upd_ne hOC]; exact t4) ht (fun tl' htl => ?_)
      show Wops _ _ _ _ _
      repeat' (first | (with_reducible refine blk_n ?_) | ((with_reducible refine k_nil ?_); (with_reducible apply s_nil hK); (· exact nmX); clear hK; clear K) | ((with_reducible refine k_store ?_); ((with_reducible apply s_store0); (· rfl); (· rfl); (· rfl); (· (exact hpX)); (· (exact ⟨rfl, by exact Nat.le_of_ble_eq_true rfl⟩)); (· ((exact liL))); (· (rfl)))) | ((with_reducible refine k_faddr ?_); (((with_reducible apply s_faddrP); (· rfl); (· rfl)))) | ((with_reducible refine k_nilck ?_); (((with_reducible apply s_nilckP); (· rfl)))))
      all_goals first | (exfalso; omega) | skip
      refine con_end (rs := []) rfl (hQ _ (.sl kO 3 0 (s.out.length - 1)) ⟨?_, ?_, ?_, ?_, ⟨ne1, ne2, ne3⟩, ?_⟩ ?_)
      · rw [List.length_set]; exact upd_self
      · rw [upd_ne ne1, upd_ne (Ne.symm hOF), upd_ne ne3]; exact t2
      · rw [upd_ne ne2, upd_ne (Ne.symm hOC)]; exact upd_self
      · refine ⟨by rw [wrs_len], .inr ⟨kO, tl', t + 1, by rw [List.length_eraseIdx, if_pos hkl], ?_, htl⟩⟩
        rw [upd_ne hOk]; exact upd_self
      · intro sz off n
        exact ⟨fun e => hOk (by injection e), fun e => hOF (by injection e), fun e => hOC (by injection e)⟩
      · intro j c hj ⟨j1, j2, j3, j4⟩
        have j5 : j ≠ kO := fun e => j4 3 0 s.out.length (by rw [e])
        exact ⟨by rw [upd_ne j1, upd_ne j5, upd_ne j3]; exact hh3 j c (upd_sub (by assumption) j c hj), j1, j2, j3, fun sz off n e => j5 (by injection e with e; exact e.symm)⟩
    · have h3 : kind = 3 := by
        rw [if_neg h1, if_neg h2] at he
        split at he
        · assumption
        · cases he
      rw [if_neg h1, if_neg h2, if_pos h3] at hQ
      subst h3
      have hO := H.o
      have hno := H.no
      have hcl2 : (s.cache.map cD).length = s.cache.length := List.length_map _
      repeat' (first | (with_reducible first | refine W_seq ?_ | refine then_n ?_ | refine W_block ?_) | ((with_reducible refine s_reg ?_); intro K hK) | ((with_reducible refine k_nil ?_); (with_reducible apply s_nil hK); (· exact nmX); clear hK; clear K) | ((with_reducible refine k_cond ?_); (first | ((with_reducible apply s_condT); (· rfl); (· exact nmX)) | ((with_reducible apply s_condF); (· rfl); (· exact nmX)))) | ((with_reducible refine k_mv ?_); (refine s_mv rfl ?_)) | ((with_reducible refine k_len ?_); ((refine s_len rfl rfl ?_))) | ((with_reducible refine k_eql ?_); ((refine s_eql rfl rfl ?_))) | ((with_reducible refine k_load ?_); (((with_reducible apply s_loadP); (· rfl); (· (exact hpX))))) | ((with_reducible refine k_faddr ?_); (((with_reducible apply s_faddrP); (· rfl); (· rfl)))) | ((with_reducible refine k_box (dst := some 3) ?_); ((with_reducible apply s_box); (· rfl); (· rfl); intro k3 hk3; (try simp only [upd_none] at hk3))) | ((with_reducible refine k_nilck ?_); (((with_reducible apply s_nilckP); (· rfl)))) | ((with_reducible refine k_br ?_); (first | (refine Br_t (by with_reducible rfl) ?_) | (refine Br_f (by omega) ?_))) | (((with_reducible apply q_eqO)); (exact liO)))
      all_goals first | (exfalso; omega) | skip
      have hold := upd_sub (x := [.int .i64 3, .int .i64 id, .int .i64 block, bD data]) hk3
      obtain ⟨e1, e2⟩ := fluG_end hcl
      refine W_for s.cache.length (fun i st => ∃ h', st = ⟨[(0, .pt k 0), (70, .sl kC 1 0 s.cache.length), (71, .int .i64 s.cache.length), (72, .int .i64 i)], h'⟩ ∧ h' kF = some ((fluG s i).1.map bD) ∧ h' kC = some ((fluG s i).2.map cD) ∧ ∀ j c, h j = some c → j ≠ kF → j ≠ kC → h' j = some c) ⟨_, rfl, hold _ _ hF, hold _ _ hC, fun j c hj _ _ => hold j c hj⟩ ?_ ?_
      · rintro i e' h' hi ⟨h2, he', hkF, hkC, hoth⟩
        cases he'
        have hk := hoth k _ hst (Ne.symm ne1) (Ne.symm ne2)
        obtain ⟨l1, l2⟩ := fluG_len s i
        have hg0 : (fluG s i).2[i]? = s.cache[i]? := by rw [fluG_2, if_neg (by omega)]
        have hm1 : ((fluG s i).1.map bD).length = s.firm.length := by rw [List.length_map, l1]
        have hm2 : ((fluG s i).2.map cD).length = s.cache.length := by rw [List.length_map, l2]
        cases hci : s.cache[i]? with
        | none => rw [List.getElem?_eq_none_iff] at hci; omega
        | some o =>
          have hgd : s.cache.getD i none = o := by rw [List.getD_eq_getElem?_getD, hci]; rfl
          have hg : ((fluG s i).2.map cD)[i]? = some (cD o) := by rw [List.getElem?_map, hg0, hci]; rfl
          cases o with
          | none =>
            have hs : fluG s (i + 1) = fluG s i := by rw [fluG, hgd]
            rw [hs]
            repeat' (first | (with_reducible first | refine W_seq ?_ | refine then_n ?_ | refine W_block ?_ | refine blk_n ?_ | refine W_skip ?_) | ((with_reducible refine s_reg ?_); intro K hK) | ((with_reducible refine k_nil ?_); (with_reducible apply s_nil hK); (· exact nmX); clear hK; clear K) | ((with_reducible refine k_cond ?_); (first | ((with_reducible apply s_condT); (· rfl); (· exact nmX)) | ((with_reducible apply s_condF); (· rfl); (· exact nmX)))) | ((with_reducible refine k_mv ?_); (refine s_mv rfl ?_)) | ((with_reducible refine k_lss ?_); (refine s_lss rfl rfl ?_)) | ((with_reducible refine k_iaddr ?_); (((with_reducible apply s_iaddrO); (· rfl); (· rfl); (· (omega)); (· (exact hpX))))) | ((with_reducible refine k_load ?_); (((with_reducible apply s_loadP); (· rfl); (· (exact hpX))))) | ((with_reducible refine k_add ?_); ((with_reducible apply s_add); (· rfl); (· rfl))) | ((with_reducible refine k_eqN ?_); (((with_reducible apply s_eqN); (· rfl); (· (rfl)); (· rfl)))) | ((with_reducible refine k_br ?_); ((refine Br_t (by omega) ?_))) | ((first | (with_reducible apply q_eqI) | (with_reducible apply q_eqN)); ((simp (disch := omega) only [w64, wu8, wu16, wu32, wu64, tm_nn, td_nn, fd_nn, Int.reduceAdd, Int.reduceSub, Int.reduceMul, Int.reduceDiv, Int.reduceMod, Int.reduceNeg, Int.reduceToNat, Int.toNat_natCast, Int.toNat_zero, Int.zero_add, Int.add_zero, Int.one_mul, Int.reducePow, Nat.mul_one, Nat.zero_add, Nat.add_zero, Nat.zero_mul, Nat.reduceAdd, Nat.reduceMul, Nat.reduceSub, Nat.min_eq_left, IntKind.bits, Nat.sub_zero, hg]; try rfl; done))) | (((with_reducible apply q_eqO)); ((simp (disch := omega) only [upd_self, upd_ne, upd_upd, rep, splice, List.take_succ_cons, List.take_zero, List.drop_succ_cons, List.drop_zero, List.cons_append, List.nil_append, List.append_nil, List.length_cons, List.length_nil, List.reduceReplicate, List.flatten_cons, List.flatten_nil, Nat.reduceAdd, Nat.reduceMul, Nat.reduceSub, Nat.zero_add, Nat.add_zero, List.getElem?_cons_zero, List.getElem?_cons_succ, hg]; try rfl; done))))
            all_goals first | (exfalso; omega) | exact ⟨_, rfl, hkF, hkC, hoth⟩
          | some c =>
            have hc0 := hp c (List.mem_of_getElem? hci)
            have hs : fluG s (i + 1) = ((fluG s i).1.set i c, (fluG s i).2.set i none) := by rw [fluG, hgd]
            rw [hs]
            have s1 := set_bD (F := (fluG s i).1) (b := i) (c := c) (by omega)
            have s2 := set_cN (C := (fluG s i).2) (b := i) (by omega)
            simp only [cD] at hg
            generalize (fluG s i).1 = F1 at *
            generalize (fluG s i).2 = C1 at *
            repeat' (first | (with_reducible first | refine W_seq ?_ | refine then_n ?_ | refine W_block ?_ | refine blk_n ?_ | refine W_skip ?_) | ((with_reducible refine s_reg ?_); intro K hK) | ((with_reducible refine k_nil ?_); (with_reducible apply s_nil hK); (· exact nmX); clear hK; clear K) | ((with_reducible refine k_cond ?_); (((with_reducible apply s_condT); (· rfl); (· exact nmX)))) | ((with_reducible refine k_mv ?_); (refine s_mv rfl ?_)) | ((with_reducible refine k_lss ?_); (refine s_lss rfl rfl ?_)) | ((with_reducible refine k_iaddr ?_); (((with_reducible apply s_iaddrO); (· rfl); (· rfl); (· (omega)); (· (exact hpX))))) | ((with_reducible refine k_load ?_); (((with_reducible apply s_loadP); (· rfl); (· (exact hpX))))) | ((with_reducible refine k_add ?_); ((with_reducible apply s_add); (· rfl); (· rfl))) | ((with_reducible refine k_store ?_); ((with_reducible apply s_store0); (· rfl); (· rfl); (· rfl); (· (exact hpX)); (· (exact ⟨rfl, by omega⟩)); (· (((simp (disch := omega) only [upd_self, upd_ne, upd_upd, rep, splice, List.take_succ_cons, List.take_zero, List.drop_succ_cons, List.drop_zero, List.cons_append, List.nil_append, List.append_nil, List.length_cons, List.length_nil, List.reduceReplicate, List.flatten_cons, List.flatten_nil, Nat.reduceAdd, Nat.reduceMul, Nat.reduceSub, Nat.zero_add, Nat.add_zero, List.getElem?_cons_zero, List.getElem?_cons_succ, hg]; try rfl; done)))); (· (rfl)))) | ((with_reducible refine k_faddr ?_); (((with_reducible apply s_faddrP); (· rfl); (· rfl)))) | ((with_reducible refine k_eqN ?_); (((with_reducible apply s_eqN); (· rfl); (· (exact isNil_vs (by omega))); (· rfl)))) | ((with_reducible refine k_nilck ?_); (((with_reducible apply s_nilckP); (· rfl)))) | ((with_reducible refine k_dreg ?_); refine W_dregM (pre := A67d17a) (suf := A67d17b) rfl rfl rfl rfl ?_; intro K hK) | (with_reducible refine d_nilS ?_) | ((with_reducible refine k_dop ?_); refine d_step (by first | exact Or.inl rfl | exact Or.inr rfl) ?_) | (with_reducible refine d_back ?_) | ((with_reducible refine k_br ?_); ((refine Br_t (by omega) ?_))) | ((first | (with_reducible apply q_eqI) | (with_reducible apply q_eqN)); ((simp (disch := omega) only [w64, wu8, wu16, wu32, wu64, tm_nn, td_nn, fd_nn, Int.reduceAdd, Int.reduceSub, Int.reduceMul, Int.reduceDiv, Int.reduceMod, Int.reduceNeg, Int.reduceToNat, Int.toNat_natCast, Int.toNat_zero, Int.zero_add, Int.add_zero, Int.one_mul, Int.reducePow, Nat.mul_one, Nat.zero_add, Nat.add_zero, Nat.zero_mul, Nat.reduceAdd, Nat.reduceMul, Nat.reduceSub, Nat.min_eq_left, IntKind.bits, Nat.sub_zero, hg]; try rfl; done))) | (((with_reducible apply q_eqO)); ((simp (disch := omega) only [upd_self, upd_ne, upd_upd, rep, splice, List.take_succ_cons, List.take_zero, List.drop_succ_cons, List.drop_zero, List.cons_append, List.nil_append, List.append_nil, List.length_cons, List.length_nil, List.reduceReplicate, List.flatten_cons, List.flatten_nil, Nat.reduceAdd, Nat.reduceMul, Nat.reduceSub, Nat.zero_add, Nat.add_zero, List.getElem?_cons_zero, List.getElem?_cons_succ, hg]; try rfl; done))))
            all_goals first | (exfalso; omega) | skip
            unfold splice at s1 s2
            rw [List.length_singleton] at s1 s2
            rw [s1, s2]
            exact ⟨_, rfl, by rw [upd_ne ne3]; exact upd_self, upd_self, fun j c hj h1 h2 => by rw [upd_ne h2, upd_ne h1]; exact hoth j c hj h1 h2⟩
      · rintro e' h' ⟨h2, he', hkF, hkC, hoth⟩
        cases he'
        have hk := hoth k _ hst (Ne.symm ne1) (Ne.symm ne2)
        rw [e1] at hkF
        rw [e2] at hkC
        repeat' (first | (with_reducible first | refine W_seq ?_ | refine then_n ?_ | refine blk_n ?_ | refine blk_e ?_ | refine W_exit ?_ | refine then_e ?_) | ((with_reducible refine s_reg ?_); intro K hK) | ((with_reducible refine k_nil ?_); (with_reducible apply s_nil hK); (· exact nmX); clear hK; clear K) | ((with_reducible refine k_cond ?_); (((with_reducible apply s_condF); (· rfl); (· exact nmX)))) | ((with_reducible refine k_lss ?_); (refine s_lss rfl rfl ?_)) | ((with_reducible refine k_br ?_); ((refine Br_f (by omega) ?_))))
        all_goals first | (exfalso; omega) | skip
        have lf : (fluS s).firm.length = s.firm.length := by rw [← e1]; exact (fluG_len s _).1
        have lc : (fluS s).cache.length = s.cache.length := by rw [← e2]; exact (fluG_len s _).2
        refine con_end rfl (hQ _ dO ⟨by rw [lf, lc]; exact hk, hkF, hkC, ?_, ⟨ne1, ne2, ne3⟩, hno⟩ ?_)
        · exact hO.mono fun j c hj ⟨sz, off, n, hd⟩ => hoth j c hj (fun e => (hno sz off n).2.1 (by rw [← e]; exact hd)) (fun e => (hno sz off n).2.2 (by rw [← e]; exact hd))
        · intro j c hj ⟨j1, j2, j3, j4⟩
          exact ⟨hoth j c hj j2 j3, j1, j2, j3, j4⟩
end Go.Proofs.Ythblalidmmbcoaa
end
section
/- min -/
/- The state after a history. -/
set_option linter.unusedSimpArgs false
set_option linter.unusedVariables false
namespace Go.Proofs.Ythblalidmmbcoaa
open Go.AM Classical
set_option maxRecDepth 100000
set_option maxHeartbeats 4000000
theorem sclone0_c : PCon Try.prog 65 [.vs 1 [] 0] (.ow 1 [] 0) := by
  refine A65p (by simp [A65]) ?_
  simp only [A65, argEnv]
  repeat' (first | (with_reducible first | refine W_seq ?_ | refine then_n ?_ | refine W_skip ?_ | refine W_ret ?_ | refine then_r ?_) | ((with_reducible refine s_reg ?_); intro K hK) | ((with_reducible refine k_nil ?_); (with_reducible apply s_nil hK); (· exact nmX); clear hK; clear K) | ((with_reducible refine k_cond ?_); (first | ((with_reducible apply s_condT); (· rfl); (· exact nmX)) | ((with_reducible apply s_condF); (· rfl); (· exact nmX)))) | ((with_reducible refine k_mv ?_); (refine s_mv rfl ?_)) | ((with_reducible refine k_eqN ?_); (((with_reducible apply s_eqN0); (· rfl); intro b; cases b))) | ((with_reducible refine k_buildS (dst := some 5) ?_); ((with_reducible apply s_buildS); (· rfl); (· (exact ⟨rfl, by decide⟩)); (· ((simp only [fillB, rep, splice, List.reduceReplicate, List.flatten_cons, List.flatten_nil, List.cons_append, List.nil_append, List.append_nil, List.length_cons, List.length_nil, Nat.reduceAdd, Nat.reduceMul, Nat.reduceLeDiff, Nat.reduceEqDiff, eq_self, Nat.le_refl, Nat.zero_add, and_self, and_true, true_and, if_true, List.take_zero, List.take_succ_cons, List.drop_zero, List.drop_succ_cons, List.drop_nil, List.take_nil]; rfl))); intro k5 hk5; (try simp only [upd_none] at hk5))) | ((with_reducible refine k_append (dst := some 7) ?_); ((with_reducible apply s_app); (· rfl); (· rfl); (· first | exact SlOwn.sl upd_self rfl); (· rfl); (· first | (exact srcD_vs (by simp))); (· exact ⟨by rfl, by decide⟩); (· first | (rw [room_n]; omega)); intro da7 ha7 hso7 hoth7)))
  all_goals first | (first | exact Fin_flat trivial rfl rfl | (refine Fin_tup trivial rfl ?_ (Nat.le_of_ble_eq_true rfl); (repeat (first | exact All2.nil | (apply All2.cons; (· first | exact exc_n | exact exc_e | exact exc_v rfl rfl | exact exc_o upd_self rfl rfl)))); done) | (refine Fin_own trivial rfl upd_self ?_ (Nat.le_of_ble_eq_true rfl); (repeat (first | exact All2.nil | (apply All2.cons; (· first | exact exc_n | exact exc_e | exact exc_v rfl rfl | exact exc_o upd_self rfl rfl)))); done) | exact Fin_nil trivial rfl | exact Fin_sl trivial rfl upd_self rfl rfl) | exact Fin_so trivial rfl (by assumption) rfl
theorem sclone_con {B : List Bs} (h0 : 0 < B.length) (hl : B.length ≤ 1000000) (h : Heap) : Con Try.prog 65 [bsD B] h (fun d h' => ∃ k, h k = none ∧ d = .sl k 1 0 B.length ∧ h' = AM.upd h k (B.map bD)) := by
  refine con_of_W mixed Try.func65 A65k A65c (by simp [A65]) ?_
  simp only [A65, argEnv]
  have hal := bs_len B
  repeat' (first | (with_reducible first | refine W_seq ?_ | refine then_n ?_ | refine W_skip ?_) | ((with_reducible refine s_reg ?_); intro K hK) | ((with_reducible refine k_nil ?_); (with_reducible apply s_nil hK); (· exact nmX); clear hK; clear K) | ((with_reducible refine k_cond ?_); (((with_reducible apply s_condF); (· rfl); (· exact nmX)))) | ((with_reducible refine k_mv ?_); (refine s_mv rfl ?_)) | ((with_reducible refine k_eqN ?_); (((with_reducible apply s_eqN); (· rfl); (· (exact isNil_vs (by omega))); (· rfl)))))
  all_goals first | (exfalso; omega) | skip
  unfold A65r4
  refine s_buildS (by exact rfl) (by exact ⟨rfl, by decide⟩) (by exact rfl) ?_
  intro k5 hk5
  rw [show rep 0 [D.nil] = [] from rfl]
  refine s_mv rfl ?_
  refine s_append rfl rfl fun k hk => ?_
  obtain ⟨hk1, hk2⟩ : k ≠ k5 ∧ h k = none := by simpa only [upd_none] using hk
  refine ⟨.sl k 1 0 B.length, AM.upd h k (B.map bD), ?_, ?_⟩
  · simp only [appD, lenA, lenD, srcD, true_and, Nat.le_refl, hal, Nat.mul_one, if_true, upd_self]
    rw [if_neg (by omega), if_neg (by simp only [List.length_nil]; omega), if_pos (by refine ⟨rfl, ?_⟩; rw [room_n]; omega), del_upd hk5]
    rw [List.take_of_length_le (by omega)]
    simp
  repeat' (first | (with_reducible first | refine then_n ?_ | refine W_ret ?_) | ((with_reducible refine k_nil ?_); (with_reducible apply s_nil hK); (· exact nmX); clear hK; clear K) | ((with_reducible refine k_mv ?_); (refine s_mv rfl ?_)))
  all_goals first | (exfalso; omega) | exact ⟨trivial, _, rfl, k, hk2, rfl, rfl⟩
theorem sclone_pk {B : List Bs} (h0 : 0 < B.length) (hl : B.length ≤ 1000000) (h : Heap) : PK Try.prog h [bsD B] 65 (.ow 1 (B.map bD) B.length) :=
  PK.own (fun d hd => by obtain ⟨b, _, rfl⟩ := List.mem_map.1 hd; exact Kl_vs) (fun l e => by cases B <;> simp at e) (fun h2 _ => sclone_con h0 hl h2)
theorem st_more {B : List Bs} {l : List Ev} : ∀ {n}, n ≤ l.length → (∀ j, j < n → errS B l j = 0) → (∀ c, some c ∈ (stS B l n).cache → c.length = 32) ∧ (∀ w ∈ (stS B l n).out, (0 ≤ w.block ∧ w.block < B.length) ∧ w.data.length = 32) ∧ (stS B l n).out.length ≤ n
  | 0, _, _ => by
    refine ⟨fun c hc => ?_, fun w hw => ?_, ?_⟩
    · simp [stS] at hc
    · simp [stS] at hw
    · simp [stS]
  | n + 1, h, he => by
    obtain ⟨h1, h2, h3⟩ := st_more (n := n) (by omega) fun j hj => he j (by omega)
    have I := inv_n (n := n) (by omega) fun j hj => he j (by omega)
    have I2 := inv_n h he
    have hout : ∀ w ∈ (stS B l (n + 1)).out, (0 ≤ w.block ∧ w.block < B.length) ∧ w.data.length = 32 := by
      intro w hw
      rw [I2.out] at hw
      obtain ⟨x, hx, rfl⟩ := List.mem_map.1 hw
      obtain ⟨hx1, hx2⟩ := List.mem_filter.1 hx
      rw [List.mem_take_iff_getElem] at hx1
      obtain ⟨j, hj, rfl⟩ := hx1
      rw [decide_eq_true_eq] at hx2
      have := I2.blk j (by omega) (by omega) hx2.1
      exact ⟨⟨this.1, this.2.1⟩, this.2.2⟩
    refine ⟨fun c hc => ?_, hout, ?_⟩
    · rw [stS_s (by omega), appS] at hc
      split at hc
      · exact h1 c hc
      · split at hc
        · unfold doneS at hc
          split at hc
          · rename_i w hw
            have hc2 : some c ∈ (stS B l n).cache.set w.block.toNat (some w.data) := hc
            rcases List.mem_or_eq_of_mem_set hc2 with h4 | h4
            · exact h1 c h4
            · injection h4 with h4; subst h4; exact (h2 w (List.mem_of_getElem? hw)).2
          · exact h1 c hc
        · split at hc
          · unfold fluS at hc; simp at hc
          · exact h1 c hc
    · rw [I2.out, List.length_map]
      have := List.length_filter_le (fun x : Ev => decide (x.kind = 1 ∧ comF l (n + 1) x.id < 0)) (l.take (n + 1))
      rw [List.length_take] at this
      omega
theorem idS_len (l : List Ev) : ∀ n, (idS l n).length ≤ n
  | 0 => by simp [idS]
  | n + 1 => by
    have := idS_len l n
    unfold idS
    split
    · unfold idsS; split <;> simp <;> omega
    · omega
theorem StH.away {h : Heap} {k kF kC j : Nat} {dO : D} {s : Sd} (H : StH h k kF kC dO s) (a : Away k kF kC dO j) {c : List D} : StH (AM.upd h j c) k kF kC dO s :=
  ⟨by rw [upd_ne (Ne.symm a.1)]; exact H.st, by rw [upd_ne (Ne.symm a.2.1)]; exact H.f, by rw [upd_ne (Ne.symm a.2.2.1)]; exact H.c, H.o.mono fun i x hi ⟨sz, off, n, hd⟩ => by rw [upd_ne (fun e => a.2.2.2 sz off n (by rw [← e]; exact hd))]; exact hi, H.ne, H.no⟩
theorem st_start {B : List Bs} {l : List Ev} {n : Nat} (hn : B.length = n) {h : Heap} {kF kC k kM : Nat} (hF : h kF = none) (hC : kC ≠ kF ∧ h kC = none) (hk : k ≠ kC ∧ k ≠ kF ∧ h k = none) (hM : kM ≠ k ∧ kM ≠ kC ∧ kM ≠ kF ∧ h kM = none) {h1 : Heap} {r : List D} (hr : r = (List.replicate n (none : Option Bs)).map cD)
    (he : AM.upd (AM.upd (AM.upd (AM.upd h kF (B.map bD)) kC r) k [.sl kF 1 0 n, .sl kC 1 0 n, .nil]) kM [.mpc []] = h1) :
    StH h1 k kF kC .nil (stS B l 0) ∧ h1 kM = some [.mpc []] ∧ Away k kF kC .nil kM ∧ ∀ j c, h j = some c → h1 j = some c ∧ Away k kF kC .nil j ∧ j ≠ kM := by
  subst he hr
  obtain ⟨c1, c2⟩ := hC
  obtain ⟨k1, k2, k3⟩ := hk
  obtain ⟨m1, m2, m3, m4⟩ := hM
  refine ⟨⟨?_, ?_, ?_, SlPre.nil, ⟨Ne.symm k2, Ne.symm k1, Ne.symm c1⟩, fun sz off n => ⟨by simp, by simp, by simp⟩⟩, upd_self, ⟨m1, m3, m2, by simp⟩, fun j c hj => ?_⟩
  · rw [upd_ne (Ne.symm m1), upd_self]
    show some _ = some [D.sl kF 1 0 B.length, D.sl kC 1 0 (List.replicate B.length none).length, D.nil]
    rw [List.length_replicate, hn]
  · rw [upd_ne (Ne.symm m3), upd_ne (Ne.symm k2), upd_ne (Ne.symm c1)]; exact upd_self
  · rw [upd_ne (Ne.symm m2), upd_ne (Ne.symm k1), upd_self, ← hn]; rfl
  · have n1 : j ≠ kF := fun e => by rw [e, hF] at hj; cases hj
    have n2 : j ≠ kC := fun e => by rw [e, c2] at hj; cases hj
    have n3 : j ≠ k := fun e => by rw [e, k3] at hj; cases hj
    have n4 : j ≠ kM := fun e => by rw [e, m4] at hj; cases hj
    exact ⟨by rw [upd_ne n4, upd_ne n3, upd_ne n2, upd_ne n1]; exact hj, ⟨n3, n1, n2, by simp⟩, n4⟩
theorem after_body (B : List Bs) (l : List Ev) (hB : B.length ≤ 1000000) (hL : l.length ≤ 900) (hid : ∀ x ∈ l, -9223372036854775808 ≤ x.id ∧ x.id ≤ 9223372036854775807) (hch : chkS B l = fE (errS B l) l.length) {h : Heap} {Q : D → Heap → Prop}
    (hQ0 : ∀ h2, (∀ j c, h j = some c → h2 j = some c) → chkS B l ≠ 0 → Q (.tup [.nilp, .int .i64 (chkS B l)]) h2)
    (hQ1 : chkS B l = 0 → ∀ h2 k kF kC dO, StH h2 k kF kC dO (stS B l l.length) → (∀ j c, h j = some c → h2 j = some c ∧ Away k kF kC dO j) → Q (.tup [.pt k 0, .int .i64 0]) h2)
    {h1 : Heap} {k kF kC kM : Nat} (H1 : StH h1 k kF kC .nil (stS B l 0)) (hM : h1 kM = some [.mpc []]) (aM : Away k kF kC .nil kM) (hh : ∀ j c, h j = some c → h1 j = some c ∧ Away k kF kC .nil j ∧ j ≠ kM) :
    W Try.prog A39l13.loop (X.inBlock 2 (X.then (W Try.prog ((ACode.reg A39r24 [4, 5]).seq ACode.ret) fun x st => (match x with | .exit _ => False | _ => True) ∧ ∃ d, resD [.tmp 4, .tmp 5] (AM.get st.env) st.heap = some d ∧ Q d st.heap) fun x st => (match x with | .exit _ => False | _ => True) ∧ ∃ d, resD [.tmp 4, .tmp 5] (AM.get st.env) st.heap = some d ∧ Q d st.heap))
      ⟨[(8, .pt k 0), (9, .mp kM), (31, evD l), (32, .int .i64 l.length), (33, .int .i64 0)], h1⟩ := by
  have hel := evs_len l
  refine W_for l.length (fun i st => ∃ h' dO, st = ⟨[(8, .pt k 0), (9, .mp kM), (31, evD l), (32, .int .i64 l.length), (33, .int .i64 i)], h'⟩ ∧ StH h' k kF kC dO (stS B l i) ∧ h' kM = some [.mpc (idS l i)] ∧ Away k kF kC dO kM ∧ (∀ j c, h j = some c → h' j = some c ∧ Away k kF kC dO j ∧ j ≠ kM) ∧ ∀ j, j < i → errS B l j = 0) ⟨_, _, rfl, H1, hM, aM, hh, fun j hj => by omega⟩ ?_ ?_
  · rintro i e' h' hi ⟨h2, dO, he, H, hM, aM, hh, hz⟩
    cases he
    have I := inv_n (Nat.le_of_lt hi) hz
    obtain ⟨m1, m2, m3⟩ := st_more (Nat.le_of_lt hi) hz
    have hrow := evr hi
    have hidi := hid l[i] (List.getElem_mem hi)
    have hil := idS_len l i
    have hF := I.firmL
    have hC := I.cacheL
    have herr := errS_s (B := B) hi
    have hst := stS_s (B := B) hi
    have hid2 := idS_s hi
    by_cases h0 : errS B l i = 0
    · rw [h0] at herr
      rw [hst, hid2]
      have hz2 : ∀ j, j < i + 1 → errS B l j = 0 := fun j hj => by
        rcases Nat.lt_succ_iff_lt_or_eq.1 hj with h3 | rfl
        · exact hz j h3
        · exact h0
      generalize l[i] = x at *
      have c1 := fun {h3 : Heap} {Q2 : D → Heap → Prop} (H3 : StH h3 k kF kC dO (stS B l i)) (hM3 : h3 kM = some [.mpc (idS l i)]) (q : ∀ h4, (∀ j c, h3 j = some c → h4 j = some c) → Q2 (.int .i64 (wroS (stS B l i) (idS l i) x)) h4) => wrong_con H3 hM3 (by omega) (by omega) x hidi q
      have c2 := fun {h3 : Heap} {Q2 : D → Heap → Prop} (H3 : StH h3 k kF kC dO (stS B l i)) (q : ∀ h2 dO', StH h2 k kF kC dO' (appS (stS B l i) x) → (∀ j c, h3 j = some c → Away k kF kC dO j → h2 j = some c ∧ Away k kF kC dO' j) → Q2 (.tup []) h2) => apply_con H3 (by omega) (by omega) (by omega) (fun c hc => by rw [m1 c hc]; omega) (fun w hw => by rw [hF]; exact (m2 w hw).1) x (ids := idS l i) herr.symm q
      rw [← herr] at c1
      by_cases hk1 : x.kind = 1
      · have e1 : idsS (idS l i) x = x.id :: idS l i := by rw [idsS, if_pos hk1]
        rw [e1]
        clear e1 hst hid2 herr
        generalize appS (stS B l i) x = s2 at *
        obtain ⟨kind, id, block, data⟩ := x
        dsimp only [Ev.cells] at *
        subst hk1
        repeat' (first | (with_reducible first | refine W_seq ?_ | refine then_n ?_ | refine W_block ?_ | refine blk_n ?_ | refine W_skip ?_) | ((with_reducible refine s_reg ?_); intro K hK) | ((with_reducible refine k_nil ?_); (with_reducible apply s_nil hK); (· exact nmX); clear hK; clear K) | ((with_reducible refine k_cond ?_); (first | ((with_reducible apply s_condT); (· rfl); (· exact nmX)) | ((with_reducible apply s_condF); (· rfl); (· exact nmX)))) | ((with_reducible refine k_mv ?_); (refine s_mv rfl ?_)) | ((with_reducible refine k_eql ?_); ((refine s_eql rfl rfl ?_))) | ((with_reducible refine k_neq ?_); ((refine s_neq rfl rfl ?_))) | ((with_reducible refine k_lss ?_); (refine s_lss rfl rfl ?_)) | ((with_reducible refine k_iaddr ?_); (((with_reducible apply s_iaddrV); (· rfl); (· rfl); (· (omega))))) | ((with_reducible refine k_load ?_); (((with_reducible apply s_loadP); (· rfl); (· (exact hpX))))) | ((with_reducible refine k_loadA ?_); (first | ((with_reducible apply s_loadAV); (· rfl); (· (omega))) | ((with_reducible apply s_loadAP); (· rfl); (· (exact hpX)); (· (exact Nat.le_of_ble_eq_true rfl))))) | ((with_reducible refine k_add ?_); ((with_reducible apply s_add); (· rfl); (· rfl))) | ((with_reducible refine k_store ?_); ((with_reducible apply s_store0); (· rfl); (· rfl); (· rfl); (· (exact hpX)); (· (exact ⟨rfl, by exact Nat.le_of_ble_eq_true rfl⟩)); (· (((simp (disch := omega) only [upd_self, upd_ne, upd_upd, rep, splice, List.take_succ_cons, List.take_zero, List.drop_succ_cons, List.drop_zero, List.cons_append, List.nil_append, List.append_nil, List.length_cons, List.length_nil, List.reduceReplicate, List.flatten_cons, List.flatten_nil, Nat.reduceAdd, Nat.reduceMul, Nat.reduceSub, Nat.zero_add, Nat.add_zero, List.getElem?_cons_zero, List.getElem?_cons_succ, hrow]; try rfl; done)))); (· (exact upd_upd)))) | ((with_reducible refine k_faddr ?_); (((with_reducible apply s_faddrP); (· rfl); (· rfl)))) | ((with_reducible refine k_alloc (dst := some 11) ?_); ((with_reducible apply s_alloc); intro k11 hk11; (try simp only [upd_none] at hk11))) | ((with_reducible refine k_mapPut ?_); ((with_reducible apply s_mapPut); (· rfl); (· rfl); (· rfl); (· (exact hpX)); (· (exact ⟨by omega, by omega, by omega⟩)); (· (rfl)))) | ((with_reducible refine k_callF ?_); (((with_reducible apply s_call1); (· rfl)))) | ((with_reducible refine k_con ?_); (first | (refine c1 (H.mono (upd_sub (by assumption))) (upd_sub (by assumption) _ _ hM) ?_; intro h4 hh4; have t1 := hh4 _ _ (upd_sub (by assumption) _ _ hM); have t2 := hh4 _ _ upd_self) | (refine c2 ((H.mono fun j c hj => hh4 j c (upd_sub (by assumption) j c hj)).away aM) ?_; intro h5 dO5 H5 hh5))) | ((with_reducible refine k_br ?_); ((refine Br_t (by first | with_reducible rfl | omega) ?_))) | ((first | (with_reducible apply q_eqI) | (with_reducible apply q_eqN)); ((simp (disch := omega) only [w64, wu8, wu16, wu32, wu64, tm_nn, td_nn, fd_nn, Int.reduceAdd, Int.reduceSub, Int.reduceMul, Int.reduceDiv, Int.reduceMod, Int.reduceNeg, Int.reduceToNat, Int.toNat_natCast, Int.toNat_zero, Int.zero_add, Int.add_zero, Int.one_mul, Int.reducePow, Nat.mul_one, Nat.zero_add, Nat.add_zero, Nat.zero_mul, Nat.reduceAdd, Nat.reduceMul, Nat.reduceSub, Nat.min_eq_left, IntKind.bits, Nat.sub_zero, hrow]; try rfl; done))) | ((first | (with_reducible apply q_eqL) | (with_reducible apply q_eqO)); ((simp (disch := omega) only [upd_self, upd_ne, upd_upd, rep, splice, List.take_succ_cons, List.take_zero, List.drop_succ_cons, List.drop_zero, List.cons_append, List.nil_append, List.append_nil, List.length_cons, List.length_nil, List.reduceReplicate, List.flatten_cons, List.flatten_nil, Nat.reduceAdd, Nat.reduceMul, Nat.reduceSub, Nat.zero_add, Nat.add_zero, List.getElem?_cons_zero, List.getElem?_cons_succ, hrow]; try rfl; done))))
        all_goals first | (exfalso; omega) | skip
        exact ⟨_, _, rfl, H5, (hh5 kM _ upd_self aM).1, (hh5 kM _ upd_self aM).2, fun j c hj => by
          obtain ⟨a1, a2, a3⟩ := hh j c hj
          obtain ⟨b1, b2⟩ := hh5 j c (by rw [upd_ne a3]; exact hh4 j c (upd_sub hk11 j c a1)) a2
          exact ⟨b1, b2, a3⟩, hz2⟩
      · have e1 : idsS (idS l i) x = idS l i := by rw [idsS, if_neg hk1]
        rw [e1]
        clear e1 hst hid2 herr
        generalize appS (stS B l i) x = s2 at *
        obtain ⟨kind, id, block, data⟩ := x
        dsimp only [Ev.cells] at *
        repeat' (first | (with_reducible first | refine W_seq ?_ | refine then_n ?_ | refine W_block ?_ | refine blk_n ?_ | refine W_skip ?_) | ((with_reducible refine s_reg ?_); intro K hK) | ((with_reducible refine k_nil ?_); (with_reducible apply s_nil hK); (· exact nmX); clear hK; clear K) | ((with_reducible refine k_cond ?_); (first | ((with_reducible apply s_condT); (· rfl); (· exact nmX)) | ((with_reducible apply s_condF); (· rfl); (· exact nmX)))) | ((with_reducible refine k_mv ?_); (refine s_mv rfl ?_)) | ((with_reducible refine k_eql ?_); ((refine s_eql rfl rfl ?_))) | ((with_reducible refine k_neq ?_); ((refine s_neq rfl rfl ?_))) | ((with_reducible refine k_lss ?_); (refine s_lss rfl rfl ?_)) | ((with_reducible refine k_iaddr ?_); (((with_reducible apply s_iaddrV); (· rfl); (· rfl); (· (omega))))) | ((with_reducible refine k_load ?_); (((with_reducible apply s_loadP); (· rfl); (· (exact hpX))))) | ((with_reducible refine k_loadA ?_); (first | ((with_reducible apply s_loadAV); (· rfl); (· (omega))) | ((with_reducible apply s_loadAP); (· rfl); (· (exact hpX)); (· (exact Nat.le_of_ble_eq_true rfl))))) | ((with_reducible refine k_add ?_); ((with_reducible apply s_add); (· rfl); (· rfl))) | ((with_reducible refine k_store ?_); ((with_reducible apply s_store0); (· rfl); (· rfl); (· rfl); (· (exact hpX)); (· (exact ⟨rfl, by exact Nat.le_of_ble_eq_true rfl⟩)); (· (((simp (disch := omega) only [upd_self, upd_ne, upd_upd, rep, splice, List.take_succ_cons, List.take_zero, List.drop_succ_cons, List.drop_zero, List.cons_append, List.nil_append, List.append_nil, List.length_cons, List.length_nil, List.reduceReplicate, List.flatten_cons, List.flatten_nil, Nat.reduceAdd, Nat.reduceMul, Nat.reduceSub, Nat.zero_add, Nat.add_zero, List.getElem?_cons_zero, List.getElem?_cons_succ, hrow]; try rfl; done)))); (· (exact upd_upd)))) | ((with_reducible refine k_faddr ?_); (((with_reducible apply s_faddrP); (· rfl); (· rfl)))) | ((with_reducible refine k_alloc (dst := some 11) ?_); ((with_reducible apply s_alloc); intro k11 hk11; (try simp only [upd_none] at hk11))) | ((with_reducible refine k_callF ?_); (((with_reducible apply s_call1); (· rfl)))) | ((with_reducible refine k_con ?_); (first | (refine c1 (H.mono (upd_sub (by assumption))) (upd_sub (by assumption) _ _ hM) ?_; intro h4 hh4; have t1 := hh4 _ _ (upd_sub (by assumption) _ _ hM); have t2 := hh4 _ _ upd_self) | (refine c2 (H.mono fun j c hj => hh4 j c (upd_sub (by assumption) j c hj)) ?_; intro h5 dO5 H5 hh5))) | ((with_reducible refine k_br ?_); (first | (refine Br_t (by first | with_reducible rfl | omega) ?_) | (refine Br_f (by omega) ?_))) | ((first | (with_reducible apply q_eqI) | (with_reducible apply q_eqN)); ((simp (disch := omega) only [w64, wu8, wu16, wu32, wu64, tm_nn, td_nn, fd_nn, Int.reduceAdd, Int.reduceSub, Int.reduceMul, Int.reduceDiv, Int.reduceMod, Int.reduceNeg, Int.reduceToNat, Int.toNat_natCast, Int.toNat_zero, Int.zero_add, Int.add_zero, Int.one_mul, Int.reducePow, Nat.mul_one, Nat.zero_add, Nat.add_zero, Nat.zero_mul, Nat.reduceAdd, Nat.reduceMul, Nat.reduceSub, Nat.min_eq_left, IntKind.bits, Nat.sub_zero, hrow]; try rfl; done))) | ((first | (with_reducible apply q_eqL) | (with_reducible apply q_eqO)); ((simp (disch := omega) only [upd_self, upd_ne, upd_upd, rep, splice, List.take_succ_cons, List.take_zero, List.drop_succ_cons, List.drop_zero, List.cons_append, List.nil_append, List.append_nil, List.length_cons, List.length_nil, List.reduceReplicate, List.flatten_cons, List.flatten_nil, Nat.reduceAdd, Nat.reduceMul, Nat.reduceSub, Nat.zero_add, Nat.add_zero, List.getElem?_cons_zero, List.getElem?_cons_succ, hrow]; try rfl; done))))
        all_goals first | (exfalso; omega) | skip
        exact ⟨_, _, rfl, H5, (hh5 kM _ t1 aM).1, (hh5 kM _ t1 aM).2, fun j c hj => by
          obtain ⟨a1, a2, a3⟩ := hh j c hj
          obtain ⟨b1, b2⟩ := hh5 j c (hh4 j c (upd_sub hk11 j c a1)) a2
          exact ⟨b1, b2, a3⟩, hz2⟩
    · have hne : chkS B l = errS B l i := by rw [hch]; exact fE_stop hi hz rfl h0
      rw [hne] at hQ0
      rw [herr] at hQ0 h0
      generalize l[i] = x at *
      have c1 := fun {h3 : Heap} {Q2 : D → Heap → Prop} (H3 : StH h3 k kF kC dO (stS B l i)) (hM3 : h3 kM = some [.mpc (idS l i)]) (q : ∀ h4, (∀ j c, h3 j = some c → h4 j = some c) → Q2 (.int .i64 (wroS (stS B l i) (idS l i) x)) h4) => wrong_con H3 hM3 (by omega) (by omega) x hidi q
      generalize wroS (stS B l i) (idS l i) x = e at *
      obtain ⟨kind, id, block, data⟩ := x
      dsimp only [Ev.cells] at *
      repeat' (first | (with_reducible first | refine W_seq ?_ | refine then_n ?_ | refine W_block ?_ | refine blk_r ?_ | refine W_skip ?_ | refine W_ret ?_ | refine then_r ?_) | ((with_reducible refine s_reg ?_); intro K hK) | ((with_reducible refine k_nil ?_); (with_reducible apply s_nil hK); (· exact nmX); clear hK; clear K) | ((with_reducible refine k_cond ?_); (((with_reducible apply s_condT); (· rfl); (· exact nmX)))) | ((with_reducible refine k_mv ?_); (refine s_mv rfl ?_)) | ((with_reducible refine k_neq ?_); ((refine s_neq rfl rfl ?_))) | ((with_reducible refine k_lss ?_); (refine s_lss rfl rfl ?_)) | ((with_reducible refine k_iaddr ?_); (((with_reducible apply s_iaddrV); (· rfl); (· rfl); (· (omega))))) | ((with_reducible refine k_loadA ?_); (first | ((with_reducible apply s_loadAV); (· rfl); (· (omega))) | ((with_reducible apply s_loadAP); (· rfl); (· (exact hpX)); (· (exact Nat.le_of_ble_eq_true rfl))))) | ((with_reducible refine k_store ?_); ((with_reducible apply s_store0); (· rfl); (· rfl); (· rfl); (· (exact hpX)); (· (exact ⟨rfl, by exact Nat.le_of_ble_eq_true rfl⟩)); (· (((simp (disch := omega) only [upd_self, upd_ne, upd_upd, rep, splice, List.take_succ_cons, List.take_zero, List.drop_succ_cons, List.drop_zero, List.cons_append, List.nil_append, List.append_nil, List.length_cons, List.length_nil, List.reduceReplicate, List.flatten_cons, List.flatten_nil, Nat.reduceAdd, Nat.reduceMul, Nat.reduceSub, Nat.zero_add, Nat.add_zero, List.getElem?_cons_zero, List.getElem?_cons_succ, hrow]; try rfl; done)))); (· (exact upd_upd)))) | ((with_reducible refine k_alloc (dst := some 11) ?_); ((with_reducible apply s_alloc); intro k11 hk11; (try simp only [upd_none] at hk11))) | ((with_reducible refine k_callF ?_); (((with_reducible apply s_call1); (· rfl)))) | ((with_reducible refine k_con ?_); ((refine c1 (H.mono (upd_sub (by assumption))) (upd_sub (by assumption) _ _ hM) ?_; intro h4 hh4))) | ((with_reducible refine k_br ?_); (first | (refine Br_t (by omega) ?_) | (refine Br_f (by omega) ?_))) | (((with_reducible apply q_eqN)); ((simp (disch := omega) only [w64, wu8, wu16, wu32, wu64, tm_nn, td_nn, fd_nn, Int.reduceAdd, Int.reduceSub, Int.reduceMul, Int.reduceDiv, Int.reduceMod, Int.reduceNeg, Int.reduceToNat, Int.toNat_natCast, Int.toNat_zero, Int.zero_add, Int.add_zero, Int.one_mul, Int.reducePow, Nat.mul_one, Nat.zero_add, Nat.add_zero, Nat.zero_mul, Nat.reduceAdd, Nat.reduceMul, Nat.reduceSub, Nat.min_eq_left, IntKind.bits, Nat.sub_zero, hrow]; try rfl; done))) | (((with_reducible apply q_eqL)); ((simp (disch := omega) only [upd_self, upd_ne, upd_upd, rep, splice, List.take_succ_cons, List.take_zero, List.drop_succ_cons, List.drop_zero, List.cons_append, List.nil_append, List.append_nil, List.length_cons, List.length_nil, List.reduceReplicate, List.flatten_cons, List.flatten_nil, Nat.reduceAdd, Nat.reduceMul, Nat.reduceSub, Nat.zero_add, Nat.add_zero, List.getElem?_cons_zero, List.getElem?_cons_succ, hrow]; try rfl; done))))
      all_goals first | (exfalso; omega) | exact ⟨trivial, _, rfl, hQ0 _ (fun j c hj => hh4 j c (upd_sub hk11 j c (hh j c hj).1)) h0⟩
  · rintro e' h' ⟨h2, dO, he, H, hM, aM, hh, hz⟩
    cases he
    have hc0 : chkS B l = 0 := by rw [hch]; exact fE_zero.2 hz
    repeat' (first | (with_reducible first | refine W_seq ?_ | refine then_n ?_ | refine blk_e ?_ | refine W_ret ?_ | refine W_exit ?_ | refine then_e ?_) | ((with_reducible refine s_reg ?_); intro K hK) | ((with_reducible refine k_nil ?_); (with_reducible apply s_nil hK); (· exact nmX); clear hK; clear K) | ((with_reducible refine k_cond ?_); (((with_reducible apply s_condF); (· rfl); (· exact nmX)))) | ((with_reducible refine k_mv ?_); (refine s_mv rfl ?_)) | ((with_reducible refine k_lss ?_); (refine s_lss rfl rfl ?_)) | ((with_reducible refine k_br ?_); ((refine Br_f (by omega) ?_))))
    all_goals first | (exfalso; omega) | exact ⟨trivial, _, rfl, hQ1 hc0 _ _ _ _ _ H (fun j c hj => ⟨(hh j c hj).1, (hh j c hj).2.1⟩)⟩
theorem after_con (B : List Bs) (l : List Ev) (hB : B.length ≤ 1000000) (hL : l.length ≤ 900) (hid : ∀ x ∈ l, -9223372036854775808 ≤ x.id ∧ x.id ≤ 9223372036854775807) (h : Heap) {Q : D → Heap → Prop}
    (hQ0 : ∀ h2, (∀ j c, h j = some c → h2 j = some c) → chkS B l ≠ 0 → Q (.tup [.nilp, .int .i64 (chkS B l)]) h2)
    (hQ1 : chkS B l = 0 → ∀ h2 k kF kC dO, StH h2 k kF kC dO (stS B l l.length) → (∀ j c, h j = some c → h2 j = some c ∧ Away k kF kC dO j) → Q (.tup [.pt k 0, .int .i64 0]) h2) : Con Try.prog 39 [bsD B, evD l] h Q := by
  refine con_of_W mixed Try.func39 A39k A39c (by simp [A39]) ?_
  simp only [A39, argEnv]
  have hal := bs_len B
  have hel := evs_len l
  repeat' (first | (with_reducible first | refine W_seq ?_ | refine then_n ?_ | refine W_block ?_) | ((with_reducible refine s_reg ?_); intro K hK) | ((with_reducible refine k_nil ?_); (with_reducible apply s_nil hK); (· exact nmX); clear hK; clear K) | ((with_reducible refine k_mv ?_); (refine s_mv rfl ?_)) | ((with_reducible refine k_len ?_); ((refine s_len rfl rfl ?_))))
  all_goals first | (exfalso; omega) | skip
  refine W_for B.length (fun i st => (∀ j (hj : j < B.length), j < i → B[j].length = 32) ∧ st = ⟨[(0, bsD B), (1, evD l), (13, bsD B), (14, .int .i64 B.length), (15, .int .i64 i)], h⟩) ⟨fun j _ hj => by omega, rfl⟩ ?_ ?_
  · rintro i e' h' hi ⟨ht, he⟩
    cases he
    have hg := bsg hi
    by_cases h32 : B[i].length = 32
    · have h32' := h32
      generalize B[i] = b at h32 hg
      repeat' (first | (with_reducible first | refine W_seq ?_ | refine then_n ?_ | refine W_block ?_ | refine blk_n ?_ | refine W_skip ?_) | ((with_reducible refine s_reg ?_); intro K hK) | ((with_reducible refine k_nil ?_); (with_reducible apply s_nil hK); (· exact nmX); clear hK; clear K) | ((with_reducible refine k_cond ?_); (first | ((with_reducible apply s_condT); (· rfl); (· exact nmX)) | ((with_reducible apply s_condF); (· rfl); (· exact nmX)))) | ((with_reducible refine k_mv ?_); (refine s_mv rfl ?_)) | ((with_reducible refine k_len ?_); ((refine s_len rfl rfl ?_))) | ((with_reducible refine k_neq ?_); ((refine s_neq rfl rfl ?_))) | ((with_reducible refine k_lss ?_); (refine s_lss rfl rfl ?_)) | ((with_reducible refine k_iaddr ?_); (((with_reducible apply s_iaddrV); (· rfl); (· rfl); (· (omega))))) | ((with_reducible refine k_load ?_); (((with_reducible apply s_loadV); (· rfl)))) | ((with_reducible refine k_add ?_); ((with_reducible apply s_add); (· rfl); (· rfl))) | ((with_reducible refine k_br ?_); ((refine Br_t (by omega) ?_))) | ((first | (with_reducible apply q_eqI) | (with_reducible apply q_eqN)); ((simp (disch := omega) only [w64, wu8, wu16, wu32, wu64, tm_nn, td_nn, fd_nn, Int.reduceAdd, Int.reduceSub, Int.reduceMul, Int.reduceDiv, Int.reduceMod, Int.reduceNeg, Int.reduceToNat, Int.toNat_natCast, Int.toNat_zero, Int.zero_add, Int.add_zero, Int.one_mul, Int.reducePow, Nat.mul_one, Nat.zero_add, Nat.add_zero, Nat.zero_mul, Nat.reduceAdd, Nat.reduceMul, Nat.reduceSub, Nat.min_eq_left, IntKind.bits, Nat.sub_zero, hg]; try rfl; done))) | (((with_reducible apply q_eqO)); ((simp (disch := omega) only [upd_self, upd_ne, upd_upd, rep, splice, List.take_succ_cons, List.take_zero, List.drop_succ_cons, List.drop_zero, List.cons_append, List.nil_append, List.append_nil, List.length_cons, List.length_nil, List.reduceReplicate, List.flatten_cons, List.flatten_nil, Nat.reduceAdd, Nat.reduceMul, Nat.reduceSub, Nat.zero_add, Nat.add_zero, List.getElem?_cons_zero, List.getElem?_cons_succ, hg]; try rfl; done))))
      all_goals first | (exfalso; omega) | skip
      refine ⟨fun j hj hji => ?_, rfl⟩
      rcases Nat.lt_succ_iff_lt_or_eq.1 hji with h1 | rfl
      · exact ht j hj h1
      · assumption
    · have hok : ¬ okB B := fun h => h32 (h _ (List.getElem_mem hi))
      have hch : chkS B l = 3 := by unfold chkS; rw [if_neg hok]
      rw [hch] at hQ0
      generalize B[i] = b at *
      repeat' (first | (with_reducible first | refine W_seq ?_ | refine then_n ?_ | refine W_block ?_ | refine blk_r ?_ | refine W_skip ?_ | refine W_ret ?_ | refine then_r ?_) | ((with_reducible refine s_reg ?_); intro K hK) | ((with_reducible refine k_nil ?_); (with_reducible apply s_nil hK); (· exact nmX); clear hK; clear K) | ((with_reducible refine k_cond ?_); (((with_reducible apply s_condT); (· rfl); (· exact nmX)))) | ((with_reducible refine k_mv ?_); (refine s_mv rfl ?_)) | ((with_reducible refine k_len ?_); ((refine s_len rfl rfl ?_))) | ((with_reducible refine k_neq ?_); ((refine s_neq rfl rfl ?_))) | ((with_reducible refine k_lss ?_); (refine s_lss rfl rfl ?_)) | ((with_reducible refine k_iaddr ?_); (((with_reducible apply s_iaddrV); (· rfl); (· rfl); (· (omega))))) | ((with_reducible refine k_load ?_); (((with_reducible apply s_loadV); (· rfl)))) | ((with_reducible refine k_br ?_); (first | (refine Br_t (by omega) ?_) | (refine Br_f (by omega) ?_))) | (((with_reducible apply q_eqN)); ((simp (disch := omega) only [w64, wu8, wu16, wu32, wu64, tm_nn, td_nn, fd_nn, Int.reduceAdd, Int.reduceSub, Int.reduceMul, Int.reduceDiv, Int.reduceMod, Int.reduceNeg, Int.reduceToNat, Int.toNat_natCast, Int.toNat_zero, Int.zero_add, Int.add_zero, Int.one_mul, Int.reducePow, Nat.mul_one, Nat.zero_add, Nat.add_zero, Nat.zero_mul, Nat.reduceAdd, Nat.reduceMul, Nat.reduceSub, Nat.min_eq_left, IntKind.bits, Nat.sub_zero, hg]; try rfl; done))) | (((with_reducible apply q_eqO)); ((simp (disch := omega) only [upd_self, upd_ne, upd_upd, rep, splice, List.take_succ_cons, List.take_zero, List.drop_succ_cons, List.drop_zero, List.cons_append, List.nil_append, List.append_nil, List.length_cons, List.length_nil, List.reduceReplicate, List.flatten_cons, List.flatten_nil, Nat.reduceAdd, Nat.reduceMul, Nat.reduceSub, Nat.zero_add, Nat.add_zero, List.getElem?_cons_zero, List.getElem?_cons_succ, hg]; try rfl; done))))
      all_goals first | (exfalso; omega) | exact ⟨trivial, _, rfl, hQ0 h (fun _ _ h => h) (by decide)⟩
  · rintro e' h' ⟨ht, he⟩
    cases he
    have hok : okB B := fun b hb => by obtain ⟨j, hj, rfl⟩ := List.mem_iff_getElem.1 hb; exact ht j hj hj
    have hch : chkS B l = fE (errS B l) l.length := by unfold chkS; rw [if_pos hok]
    clear ht
    have hrep : rep B.length [D.nil] = (List.replicate B.length (none : Option Bs)).map cD := by
      unfold rep; rw [List.map_replicate]; induction B.length with
      | zero => rfl
      | succ n ih => rw [List.replicate_succ, List.flatten_cons, ih]; rfl
    by_cases hB0 : B.length = 0
    · have hB1 : B = [] := List.length_eq_zero_iff.1 hB0
      have c0 := sclone0_c
      subst hB1
      repeat' (first | (with_reducible first | refine W_seq ?_ | refine then_n ?_ | refine W_block ?_ | refine blk_e ?_ | refine W_exit ?_ | refine then_e ?_) | ((with_reducible refine s_reg ?_); intro K hK) | ((with_reducible refine k_nil ?_); (with_reducible apply s_nil hK); (· exact nmX); clear hK; clear K) | ((with_reducible refine k_cond ?_); (((with_reducible apply s_condF); (· rfl); (· exact nmX)))) | ((with_reducible refine k_mv ?_); (refine s_mv rfl ?_)) | ((with_reducible refine k_len ?_); ((refine s_len rfl rfl ?_))) | ((with_reducible refine k_lss ?_); (refine s_lss rfl rfl ?_)) | ((with_reducible refine k_mkslice (dst := some 27) ?_); ((with_reducible apply s_mkslice); (· rfl); (· rfl); (· (exact ⟨rfl, by decide, by omega, by omega, by (rw [room_i]; omega), by omega⟩)); (· ((exact nuN))); intro k27 hk27; (try simp only [upd_none] at hk27))) | ((with_reducible refine k_box (dst := some 29) ?_); ((with_reducible apply s_box); (· rfl); (· rfl); intro k29 hk29; (try simp only [upd_none] at hk29))) | ((with_reducible refine k_build ?_); ((with_reducible apply s_build); (· rfl); (· rfl))) | ((with_reducible refine k_mkmap (dst := some 30) ?_); ((with_reducible apply s_mkmap); intro k30 hk30; (try simp only [upd_none] at hk30))) | ((with_reducible refine k_dreg ?_); refine W_dregC (pre := A39d10x) (mid := A39d10m) (suf := A39d10s) rfl rfl rfl rfl rfl rfl ?_; intro K hK) | (with_reducible refine d_nilC ?_) | (with_reducible refine d_nilO ?_) | ((with_reducible apply d_own); (· rfl); (· exact c0); (· (exact agX)); intro kF hkF; (try simp only [upd_none] at hkF); simp only [thaw, thawC, List.map, thawH, owOf, owL]) | ((with_reducible refine k_dop ?_); refine d_step (by exact Or.inl rfl) ?_) | (with_reducible refine d_back ?_) | ((with_reducible refine k_br ?_); ((refine Br_f (by omega) ?_))))
      all_goals first | (exfalso; omega) | skip
      obtain ⟨s1, s2, s3, s4⟩ := st_start (B := []) (l := l) (n := 0) rfl hkF hk27 hk29 hk30 hrep rfl
      exact after_body [] l hB hL hid hch hQ0 hQ1 s1 s2 s3 s4
    · have c0 := sclone_pk (B := B) (by omega) hB
      repeat' (first | (with_reducible first | refine W_seq ?_ | refine then_n ?_ | refine W_block ?_ | refine blk_e ?_ | refine W_exit ?_ | refine then_e ?_) | ((with_reducible refine s_reg ?_); intro K hK) | ((with_reducible refine k_nil ?_); (with_reducible apply s_nil hK); (· exact nmX); clear hK; clear K) | ((with_reducible refine k_cond ?_); (((with_reducible apply s_condF); (· rfl); (· exact nmX)))) | ((with_reducible refine k_mv ?_); (refine s_mv rfl ?_)) | ((with_reducible refine k_len ?_); ((refine s_len rfl rfl ?_))) | ((with_reducible refine k_lss ?_); (refine s_lss rfl rfl ?_)) | ((with_reducible refine k_mkslice (dst := some 27) ?_); ((with_reducible apply s_mkslice); (· rfl); (· rfl); (· (exact ⟨rfl, by decide, by omega, by omega, by (rw [room_i]; omega), by omega⟩)); (· ((exact nuN))); intro k27 hk27; (try simp only [upd_none] at hk27))) | ((with_reducible refine k_box (dst := some 29) ?_); ((with_reducible apply s_box); (· rfl); (· rfl); intro k29 hk29; (try simp only [upd_none] at hk29))) | ((with_reducible refine k_build ?_); ((with_reducible apply s_build); (· rfl); (· rfl))) | ((with_reducible refine k_mkmap (dst := some 30) ?_); ((with_reducible apply s_mkmap); intro k30 hk30; (try simp only [upd_none] at hk30))) | ((with_reducible refine k_dreg ?_); refine W_dregC (pre := A39d10x) (mid := A39d10m) (suf := A39d10s) rfl rfl rfl rfl rfl rfl ?_; intro K hK) | (with_reducible refine d_nilC ?_) | (with_reducible refine d_nilO ?_) | ((with_reducible apply d_ownK); (· rfl); (· exact c0 _); intro kF hkF; (try simp only [upd_none] at hkF); simp only [thaw, thawC, List.map, thawH, owOf, owL]) | ((with_reducible refine k_dop ?_); refine d_step (by exact Or.inl rfl) ?_) | (with_reducible refine d_back ?_) | ((with_reducible refine k_br ?_); ((refine Br_f (by omega) ?_))))
      all_goals first | (exfalso; omega) | skip
      obtain ⟨s1, s2, s3, s4⟩ := st_start (B := B) (l := l) rfl hkF hk27 hk29 hk30 hrep rfl
      exact after_body B l hB hL hid hch hQ0 hQ1 s1 s2 s3 s4
end Go.Proofs.Ythblalidmmbcoaa
end
section
/- min -/
/- Latest and durable contents. -/
set_option linter.unusedSimpArgs false
set_option linter.unusedVariables false
namespace Go.Proofs.Ythblalidmmbcoaa
open Go.AM Classical
set_option maxRecDepth 100000
set_option maxHeartbeats 4000000
theorem after_ok {B : List Bs} {l : List Ev} (hB : B.length ≤ 1000000) (hL : l.length ≤ 900) (hid : ∀ x ∈ l, -9223372036854775808 ≤ x.id ∧ x.id ≤ 9223372036854775807) (hc : chkR B l = 0) {h : Heap} {Q : D → Heap → Prop}
    (hQ : ∀ h2 k kF kC dO, StH h2 k kF kC dO (stS B l l.length) → (∀ j c, h j = some c → h2 j = some c ∧ Away k kF kC dO j) → Q (.tup [.pt k 0, .int .i64 0]) h2) : Con Try.prog 39 [bsD B, evD l] h Q :=
  after_con B l hB hL hid h (fun _ _ hn => absurd ((chk_eq B l).trans hc) hn) (fun _ h2 k kF kC dO H hh => hQ h2 k kF kC dO H hh)
theorem after_no {B : List Bs} {l : List Ev} (hB : B.length ≤ 1000000) (hL : l.length ≤ 900) (hid : ∀ x ∈ l, -9223372036854775808 ≤ x.id ∧ x.id ≤ 9223372036854775807) (hc : chkR B l ≠ 0) {h : Heap} {Q : D → Heap → Prop}
    (hQ : ∀ h2, (∀ j c, h j = some c → h2 j = some c) → Q (.tup [.nilp, .int .i64 (chkR B l)]) h2) : Con Try.prog 39 [bsD B, evD l] h Q :=
  after_con B l hB hL hid h (fun h2 hh _ => by rw [chk_eq]; exact hQ h2 hh) (fun h0 => absurd ((chk_eq B l).symm.trans h0) hc)
theorem bDs_kl {L : List Bs} : ∀ x ∈ L.map bD, Kl x := fun x hx => by obtain ⟨b, _, rfl⟩ := List.mem_map.1 hx; exact Kl_vs
theorem firm_32 {B : List Bs} {l : List Ev} (hok : okB B) : ∀ {n}, n ≤ l.length → (∀ j, j < n → errS B l j = 0) → ∀ b ∈ (stS B l n).firm, b.length = 32
  | 0, _, _ => hok
  | n + 1, h, he => by
    have ih := firm_32 (n := n) hok (by omega) fun j hj => he j (by omega)
    have hc := (st_more (B := B) (n := n) (by omega) fun j hj => he j (by omega)).1
    intro b hb
    rw [stS_s (by omega), appS] at hb
    split at hb
    · exact ih b hb
    · split at hb
      · unfold doneS at hb
        split at hb <;> exact ih b hb
      · split at hb
        · have hb2 : b ∈ List.zipWith (fun f (c : Option Bs) => c.getD f) (stS B l n).firm (stS B l n).cache := hb
          obtain ⟨i, hi, rfl⟩ := List.mem_iff_getElem.1 hb2
          rw [List.getElem_zipWith]
          cases hci : (stS B l n).cache[i]'(by rw [List.length_zipWith] at hi; omega) with
          | none => exact ih _ (List.getElem_mem _)
          | some c => exact hc c (by rw [← hci]; exact List.getElem_mem _)
        · exact ih b hb
theorem lat_32 {B : List Bs} {l : List Ev} (hok : okB B) {n : Nat} (hn : n ≤ l.length) (he : ∀ j, j < n → errS B l j = 0) (I : InvS B l n) {b : Nat} (hb : b < B.length) : (uptoF B l n b).length = 32 ∧ (uptoF B l (fluF l n) b).length = 32 := by
  have h1 := firm_32 hok hn he
  have h2 := (st_more hn he).1
  have hF := I.firmL
  have hC := I.cacheL
  have hf : ((stS B l n).firm.getD b []).length = 32 := by
    rw [List.getD_eq_getElem?_getD, List.getElem?_eq_getElem (by omega)]; exact h1 _ (List.getElem_mem _)
  constructor
  · rw [← I.lat b hb]
    cases hc : (stS B l n).cache.getD b none with
    | none => exact hf
    | some c =>
      rw [List.getD_eq_getElem?_getD, List.getElem?_eq_getElem (by omega : b < (stS B l n).cache.length)] at hc
      exact h2 c (by rw [← show (stS B l n).cache[b]'(by omega) = some c by simpa using hc]; exact List.getElem_mem _)
  · rw [← I.firm b hb]; exact hf
theorem chk_zero {B : List Bs} {l : List Ev} (h : chkR B l = 0) : ∀ j, j < l.length → errS B l j = 0 := by
  have h2 := h
  rw [← chk_eq] at h2
  unfold chkS at h2
  rw [if_pos (chk_inv h).1] at h2
  exact fE_zero.1 h2
end Go.Proofs.Ythblalidmmbcoaa
end
section
/- Histories: possible contents, images. No program. -/
set_option linter.unusedSimpArgs false
set_option linter.unusedVariables false
namespace Go.Proofs.Ythblalidmmbcoaa
open Go.AM Classical
def putB (acc : List Bs) (b : Bs) : List Bs := if b ∈ acc then acc else acc ++ [b]
def ddF (l : List Bs) : List Bs := l.foldl putB []
theorem ddF_snoc (l : List Bs) (b : Bs) : ddF (l ++ [b]) = putB (ddF l) b := by unfold ddF; rw [List.foldl_append]; rfl
theorem putB_mem {acc : List Bs} {b c : Bs} : c ∈ putB acc b ↔ c ∈ acc ∨ c = b := by
  unfold putB
  split
  · constructor
    · exact .inl
    · rintro (h | rfl) <;> assumption
  · simp
theorem ddF_mem {c : Bs} (l : List Bs) : c ∈ ddF l ↔ c ∈ l := by
  have key : ∀ (l acc : List Bs), c ∈ l.foldl putB acc ↔ c ∈ acc ∨ c ∈ l := by
    intro l
    induction l with
    | nil => intro acc; simp
    | cons a r ih => intro acc; rw [List.foldl_cons, ih, putB_mem, List.mem_cons, or_assoc]
  unfold ddF
  rw [key]; simp
theorem ddF_len (l : List Bs) : (ddF l).length ≤ l.length := by
  have key : ∀ (l acc : List Bs), (l.foldl putB acc).length ≤ acc.length + l.length := by
    intro l
    induction l with
    | nil => intro acc; simp
    | cons a r ih =>
      intro acc
      rw [List.foldl_cons]
      refine Nat.le_trans (ih _) ?_
      unfold putB
      split <;> simp <;> omega
  simpa [ddF] using key l []
def outF (l : List Ev) (n : Nat) (b : Int) : List Bs := ((l.take n).filter fun x => decide (x.kind = 1 ∧ x.block = b ∧ comF l n x.id < 0)).map Ev.data
def chF (B : List Bs) (l : List Ev) (b : Nat) : List Bs := ddF ([uptoF B l (fluF l l.length) b, uptoF B l l.length b] ++ outF l l.length b)
def outS (o : List Wr) (b : Int) : List Bs := (o.filter fun w => decide (w.block = b)).map Wr.data
theorem outS_eq {B : List Bs} {l : List Ev} {n : Nat} (I : InvS B l n) (b : Int) : outS (stS B l n).out b = outF l n b := by
  unfold outS outF
  rw [I.out, List.filter_map, List.map_map, List.filter_filter]
  congr 1
  apply List.filter_congr
  intro x _
  simp only [Function.comp_apply, Ev.wr]
  by_cases a1 : x.kind = 1 <;> by_cases a2 : x.block = b <;> by_cases a3 : comF l n x.id < 0 <;> simp [a1, a2, a3]
theorem outS_s {o : List Wr} {i : Nat} (h : i < o.length) (b : Int) : outS (o.take (i + 1)) b = outS (o.take i) b ++ if o[i].block = b then [o[i].data] else [] := by
  unfold outS
  rw [List.take_succ_eq_append_getElem h, List.filter_append, List.map_append]
  congr 1
  by_cases hb : o[i].block = b <;> simp [hb]
/-! ### Products -/
def prodF : List (List Bs) → List (List Bs)
  | [] => [[]]
  | c :: r => c.flatMap fun x => (prodF r).map (x :: ·)
def preP (C : List (List Bs)) : Nat := (C.map List.length).foldr (· * ·) 1
theorem preP_snoc (C : List (List Bs)) (c : List Bs) : preP (C ++ [c]) = preP C * c.length := by
  unfold preP
  induction C with
  | nil => simp
  | cons a r ih => simp only [List.cons_append, List.map_cons, List.foldr_cons, ih, Nat.mul_assoc]
theorem prodF_len (C : List (List Bs)) : (prodF C).length = preP C := by
  induction C with
  | nil => rfl
  | cons a r ih =>
    rw [prodF]
    show _ = a.length * preP r
    rw [← ih]
    induction a with
    | nil => simp
    | cons x a ih2 => rw [List.flatMap_cons, List.length_append, ih2, List.length_map, List.length_cons, Nat.add_mul, Nat.one_mul, Nat.add_comm]
theorem upto_in {B : List Bs} {l : List Ev} {n b : Nat} (hb : b < B.length) : uptoF B l n b ∈ B ∨ ∃ x ∈ l, uptoF B l n b = x.data := by
  unfold uptoF
  cases hl : lastF l b n with
  | none => left; rw [Option.getD_none, List.getD_eq_getElem?_getD, List.getElem?_eq_getElem hb]; exact List.getElem_mem _
  | some c =>
    right
    obtain ⟨j, hj, h1, _⟩ := lastF_some hl
    exact ⟨l[j], List.getElem_mem _, by rw [Option.getD_some]; exact h1.symm⟩
theorem outF_in {l : List Ev} {n : Nat} {b : Int} {c : Bs} (h : c ∈ outF l n b) : ∃ x ∈ l, c = x.data := by
  obtain ⟨x, hx, rfl⟩ := List.mem_map.1 h
  exact ⟨x, List.mem_of_mem_take (List.mem_filter.1 hx).1, rfl⟩
theorem outF_32 {B : List Bs} {l : List Ev} {n : Nat} (I : InvS B l n) {b : Int} {c : Bs} (h : c ∈ outF l n b) : c.length = 32 := by
  obtain ⟨x, hx, rfl⟩ := List.mem_map.1 h
  obtain ⟨hx1, hx2⟩ := List.mem_filter.1 hx
  rw [List.mem_take_iff_getElem] at hx1
  obtain ⟨j, hj, rfl⟩ := hx1
  rw [decide_eq_true_eq] at hx2
  exact (I.blk j (by omega) (by omega) hx2.1).2.2
end Go.Proofs.Ythblalidmmbcoaa
end
section
/- min -/
/- Possible contents. -/
set_option linter.unusedSimpArgs false
set_option linter.unusedVariables false
namespace Go.Proofs.Ythblalidmmbcoaa
open Go.AM Classical
set_option maxRecDepth 100000
set_option maxHeartbeats 4000000
theorem eq1_c (c b : Bs) (hc : byB c) (hb : byB b) : PCon Try.prog 68 [bD c, .vp [bD b] 0] (.bool (decide (b = c))) := by
  refine A68p (by simp [A68]) ?_
  simp only [A68, argEnv]
  have c1 := equal_c b c hb hc
  repeat' (first | (with_reducible first | refine W_seq ?_ | refine then_n ?_ | refine W_ret ?_) | ((with_reducible refine s_reg ?_); intro K hK) | ((with_reducible refine k_nil ?_); (with_reducible apply s_nil hK); (· exact nmX); clear hK; clear K) | ((with_reducible refine k_mv ?_); (refine s_mv rfl ?_)) | ((with_reducible refine k_load ?_); (((with_reducible apply s_loadV); (· rfl)))) | ((with_reducible refine k_callF ?_); (((with_reducible apply s_call1); (· rfl)))) | ((with_reducible refine k_con ?_); (((with_reducible apply con_val (c1)); (· (exact agX)); (· rfl); (· exact fun _ => rfl)))) | (((with_reducible apply q_eqO)); (exact liO)))
  all_goals first | exact Fin_flat trivial rfl rfl | (refine Fin_tup trivial rfl ?_ (Nat.le_of_ble_eq_true rfl); (repeat (first | exact All2.nil | (apply All2.cons; (· first | exact exc_n | exact exc_e | exact exc_v rfl rfl | exact exc_o upd_self rfl rfl)))); done) | (refine Fin_own trivial rfl upd_self ?_ (Nat.le_of_ble_eq_true rfl); (repeat (first | exact All2.nil | (apply All2.cons; (· first | exact exc_n | exact exc_e | exact exc_v rfl rfl | exact exc_o upd_self rfl rfl)))); done) | exact Fin_nil trivial rfl | exact Fin_sl trivial rfl upd_self rfl rfl
theorem bidx_c (L : List Bs) (hl : L.length ≤ 1000000) (g : Nat) (b : Bs) (hg : ∀ c ∈ L, PCon Try.prog g [bD c, .vp [bD b] 0] (.bool (decide (b = c)))) : PCon Try.prog 71 [bsD L, .fn g [] [.vp [bD b] 0]] (.int .i64 (firstI (fun c => decide (b = c)) L)) := by
  refine A71p (by simp [A71]) ?_
  simp only [A71, argEnv]
  have hal := bs_len L
  repeat' (first | (with_reducible first | refine W_seq ?_ | refine then_n ?_ | refine W_block ?_) | ((with_reducible refine s_reg ?_); intro K hK) | ((with_reducible refine k_nil ?_); (with_reducible apply s_nil hK); (· exact nmX); clear hK; clear K) | ((with_reducible refine k_mv ?_); (refine s_mv rfl ?_)) | ((with_reducible refine k_len ?_); ((refine s_len rfl rfl ?_))))
  refine W_for L.length (fun j st => (∀ m (hm : m < j) (h : m < L.length), decide (b = L[m]) = false) ∧ st = ⟨[(0, bsD L), (1, .fn g [] [.vp [bD b] 0]), (7, .int .i64 L.length), (8, .int .i64 j)], fun _ => none⟩) ⟨fun j hj => by omega, rfl⟩ ?_ ?_
  · rintro j e' h' hi ⟨ht, he⟩
    cases he
    have hpi := hg L[j] (List.getElem_mem hi)
    have hrow := bsg hi
    cases hpb : decide (b = L[j]) with
    | true =>
      rw [hpb] at hpi
      repeat' (first | (with_reducible first | refine W_seq ?_ | refine then_n ?_ | refine W_block ?_ | refine blk_r ?_ | refine W_skip ?_ | refine W_ret ?_ | refine then_r ?_) | ((with_reducible refine s_reg ?_); intro K hK) | ((with_reducible refine k_nil ?_); (with_reducible apply s_nil hK); (· exact nmX); clear hK; clear K) | ((with_reducible refine k_cond ?_); (((with_reducible apply s_condT); (· rfl); (· exact nmX)))) | ((with_reducible refine k_mv ?_); (refine s_mv rfl ?_)) | ((with_reducible refine k_lss ?_); (refine s_lss rfl rfl ?_)) | ((with_reducible refine k_iaddr ?_); (((with_reducible apply s_iaddrV); (· rfl); (· rfl); (· (omega))))) | ((with_reducible refine k_load ?_); (((with_reducible apply s_loadV); (· rfl)))) | ((with_reducible refine k_callT ?_); ((with_reducible apply s_callt); (· rfl); (· rfl); (· rfl))) | ((with_reducible refine k_con ?_); (((with_reducible apply con_val (hpi)); (· (repeat (first | exact All2.nil | (apply All2.cons; (· first | exact Rd_vs | exact rdX))))); (· rfl); (· exact fun _ => rfl)))) | ((with_reducible refine k_br ?_); ((refine Br_t (by omega) ?_))) | (((with_reducible apply q_eqN)); ((simp (disch := omega) only [w64, wu8, wu16, wu32, wu64, tm_nn, td_nn, fd_nn, Int.reduceAdd, Int.reduceSub, Int.reduceMul, Int.reduceDiv, Int.reduceMod, Int.reduceNeg, Int.reduceToNat, Int.toNat_natCast, Int.toNat_zero, Int.zero_add, Int.add_zero, Int.one_mul, Int.reducePow, Nat.mul_one, Nat.zero_add, Nat.add_zero, Nat.zero_mul, Nat.reduceAdd, Nat.reduceMul, Nat.reduceSub, Nat.min_eq_left, IntKind.bits, Nat.sub_zero, hrow]; try rfl; done))) | (((with_reducible apply q_eqO)); ((simp (disch := omega) only [upd_self, upd_ne, upd_upd, rep, splice, List.take_succ_cons, List.take_zero, List.drop_succ_cons, List.drop_zero, List.cons_append, List.nil_append, List.append_nil, List.length_cons, List.length_nil, List.reduceReplicate, List.flatten_cons, List.flatten_nil, Nat.reduceAdd, Nat.reduceMul, Nat.reduceSub, Nat.zero_add, Nat.add_zero, List.getElem?_cons_zero, List.getElem?_cons_succ, hrow]; try rfl; done))))
      rw [firstI_at hi hpb (fun m hm => ht m hm (by omega))]
      first | exact Fin_flat trivial rfl rfl | (refine Fin_tup trivial rfl ?_ (Nat.le_of_ble_eq_true rfl); (repeat (first | exact All2.nil | (apply All2.cons; (· first | exact exc_n | exact exc_e | exact exc_v rfl rfl | exact exc_o upd_self rfl rfl)))); done) | (refine Fin_own trivial rfl upd_self ?_ (Nat.le_of_ble_eq_true rfl); (repeat (first | exact All2.nil | (apply All2.cons; (· first | exact exc_n | exact exc_e | exact exc_v rfl rfl | exact exc_o upd_self rfl rfl)))); done) | exact Fin_nil trivial rfl | exact Fin_sl trivial rfl upd_self rfl rfl
    | false =>
      rw [hpb] at hpi
      repeat' (first | (with_reducible first | refine W_seq ?_ | refine then_n ?_ | refine W_block ?_ | refine blk_n ?_ | refine W_skip ?_) | ((with_reducible refine s_reg ?_); intro K hK) | ((with_reducible refine k_nil ?_); (with_reducible apply s_nil hK); (· exact nmX); clear hK; clear K) | ((with_reducible refine k_cond ?_); (first | ((with_reducible apply s_condT); (· rfl); (· exact nmX)) | ((with_reducible apply s_condF); (· rfl); (· exact nmX)))) | ((with_reducible refine k_mv ?_); (refine s_mv rfl ?_)) | ((with_reducible refine k_lss ?_); (refine s_lss rfl rfl ?_)) | ((with_reducible refine k_iaddr ?_); (((with_reducible apply s_iaddrV); (· rfl); (· rfl); (· (omega))))) | ((with_reducible refine k_load ?_); (((with_reducible apply s_loadV); (· rfl)))) | ((with_reducible refine k_add ?_); ((with_reducible apply s_add); (· rfl); (· rfl))) | ((with_reducible refine k_callT ?_); ((with_reducible apply s_callt); (· rfl); (· rfl); (· rfl))) | ((with_reducible refine k_con ?_); (((with_reducible apply con_val (hpi)); (· (repeat (first | exact All2.nil | (apply All2.cons; (· first | exact Rd_vs | exact rdX))))); (· rfl); (· exact fun _ => rfl)))) | ((with_reducible refine k_br ?_); ((refine Br_t (by omega) ?_))) | ((first | (with_reducible apply q_eqI) | (with_reducible apply q_eqN)); ((simp (disch := omega) only [w64, wu8, wu16, wu32, wu64, tm_nn, td_nn, fd_nn, Int.reduceAdd, Int.reduceSub, Int.reduceMul, Int.reduceDiv, Int.reduceMod, Int.reduceNeg, Int.reduceToNat, Int.toNat_natCast, Int.toNat_zero, Int.zero_add, Int.add_zero, Int.one_mul, Int.reducePow, Nat.mul_one, Nat.zero_add, Nat.add_zero, Nat.zero_mul, Nat.reduceAdd, Nat.reduceMul, Nat.reduceSub, Nat.min_eq_left, IntKind.bits, Nat.sub_zero, hrow]; try rfl; done))) | (((with_reducible apply q_eqO)); ((simp (disch := omega) only [upd_self, upd_ne, upd_upd, rep, splice, List.take_succ_cons, List.take_zero, List.drop_succ_cons, List.drop_zero, List.cons_append, List.nil_append, List.append_nil, List.length_cons, List.length_nil, List.reduceReplicate, List.flatten_cons, List.flatten_nil, Nat.reduceAdd, Nat.reduceMul, Nat.reduceSub, Nat.zero_add, Nat.add_zero, List.getElem?_cons_zero, List.getElem?_cons_succ, hrow]; try rfl; done))))
      refine ⟨fun m hm h => ?_, rfl⟩
      rcases Nat.lt_succ_iff_lt_or_eq.1 hm with h1 | rfl
      · exact ht m h1 h
      · exact hpb
  · rintro e' h' ⟨ht, he⟩
    cases he
    repeat' (first | (with_reducible first | refine W_seq ?_ | refine then_n ?_ | refine blk_e ?_ | refine W_ret ?_ | refine W_exit ?_ | refine then_e ?_) | ((with_reducible refine s_reg ?_); intro K hK) | ((with_reducible refine k_nil ?_); (with_reducible apply s_nil hK); (· exact nmX); clear hK; clear K) | ((with_reducible refine k_cond ?_); (((with_reducible apply s_condF); (· rfl); (· exact nmX)))) | ((with_reducible refine k_mv ?_); (refine s_mv rfl ?_)) | ((with_reducible refine k_lss ?_); (refine s_lss rfl rfl ?_)) | ((with_reducible refine k_br ?_); ((refine Br_f (by omega) ?_))))
    rw [firstI_no (fun m hm => ht m hm hm)]
    first | exact Fin_flat trivial rfl rfl | (refine Fin_tup trivial rfl ?_ (Nat.le_of_ble_eq_true rfl); (repeat (first | exact All2.nil | (apply All2.cons; (· first | exact exc_n | exact exc_e | exact exc_v rfl rfl | exact exc_o upd_self rfl rfl)))); done) | (refine Fin_own trivial rfl upd_self ?_ (Nat.le_of_ble_eq_true rfl); (repeat (first | exact All2.nil | (apply All2.cons; (· first | exact exc_n | exact exc_e | exact exc_v rfl rfl | exact exc_o upd_self rfl rfl)))); done) | exact Fin_nil trivial rfl | exact Fin_sl trivial rfl upd_self rfl rfl
theorem bcont_c (L : List Bs) (hl : L.length ≤ 1000000) (g : Nat) (b : Bs) (hg : ∀ c ∈ L, PCon Try.prog g [bD c, .vp [bD b] 0] (.bool (decide (b = c)))) : PCon Try.prog 51 [bsD L, .fn g [] [.vp [bD b] 0]] (.bool (decide (b ∈ L))) := by
  refine A51p (by simp [A51]) ?_
  simp only [A51, argEnv]
  have c1 := bidx_c L hl g b hg
  have hf : 0 ≤ firstI (fun c => decide (b = c)) L ↔ b ∈ L := by
    rw [firstI_nn]; simp
  generalize firstI (fun c => decide (b = c)) L = f at *
  repeat' (first | (with_reducible first | refine W_seq ?_ | refine then_n ?_ | refine W_ret ?_) | ((with_reducible refine s_reg ?_); intro K hK) | ((with_reducible refine k_nil ?_); (with_reducible apply s_nil hK); (· exact nmX); clear hK; clear K) | ((with_reducible refine k_mv ?_); (refine s_mv rfl ?_)) | ((with_reducible refine k_geq ?_); (refine s_geq rfl rfl ?_)) | ((with_reducible refine k_callF ?_); (((with_reducible apply s_call1); (· rfl)))) | ((with_reducible refine k_con ?_); (((with_reducible apply con_val (c1)); (· (repeat (first | exact All2.nil | (apply All2.cons; (· first | exact (Rd_fnR All2.nil (All2.cons Rd_vp All2.nil)) | exact rdX))))); (· rfl); (· exact fun _ => rfl)))) | ((with_reducible refine k_br ?_); ((with_reducible apply Br_s <;> intro hbr))))
  all_goals first | exact Fin_bt trivial rfl (hf.1 (by omega)) | exact Fin_bf trivial rfl (fun h => by have := hf.2 h; omega)
theorem Rd_soB {h : Heap} {d : D} {L : List Bs} (ho : SlOwn h d 1 (L.map bD) L.length) : Rd h d (bsD L) := by
  refine Rd_pre (sz := 1) (n := L.length) (cells := L.map bD) ⟨ho.1, ?_⟩ ?_
  · rcases ho.2 with h0 | ⟨k, h1, h2⟩
    · exact .inl h0
    · exact .inr ⟨k, [], 0, h1, by rw [List.append_nil]; exact h2, by simp⟩
  · refine ⟨rfl, fun i d d' h1 h2 => ?_⟩
    rw [h1] at h2; injection h2 with h2; subst h2
    rw [List.getElem?_map] at h1
    cases hb : L[i]? with
    | none => rw [hb] at h1; cases h1
    | some b => rw [hb] at h1; injection h1 with h1; subst h1; exact Rd_vs
theorem slSub {h h2 : Heap} {d : D} {sz n : Nat} {c : List D} (ho : SlOwn h d sz c n) (hh : ∀ j c, h j = some c → h2 j = some c) : SlOwn h2 d sz c n := by
  obtain ⟨hl, h0 | ⟨k, h1, h3⟩⟩ := ho
  · exact ⟨hl, .inl h0⟩
  · exact ⟨hl, .inr ⟨k, h1, hh k _ h3⟩⟩
theorem fr_step {h0 h1 h2 ha : Heap} {d : D} {ka : Nat} (hk : ∀ j c, h0 j = some c → h1 j = some c ∧ Fr d j) (h12 : ∀ j c, h1 j = some c → h2 j = some c) (hn : h2 ka = none) (hoth : ∀ j c, h2 j = some c → (∀ sz off n, d ≠ .sl j sz off n) → ha j = some c) {sz off n : Nat} : ∀ j c, h0 j = some c → ha j = some c ∧ Fr (.sl ka sz off n) j := fun j c hj => by
  obtain ⟨a1, a2⟩ := hk j c hj
  have a3 := h12 j c a1
  exact ⟨hoth j c a3 a2, Fr.sl (fun e => by rw [e] at hn; rw [hn] at a3; cases a3)⟩
theorem choices_con {h : Heap} {k kF kC : Nat} {dO : D} {s : Sd} (H : StH h k kF kC dO s) (hf : s.firm.length ≤ 1000000) (hcl : s.cache.length = s.firm.length) (hp : ∀ c, some c ∈ s.cache → 0 < c.length) (hl : s.out.length ≤ 1000) (b : Nat) (hb : b < s.firm.length)
    (hby : byB (s.firm.getD b []) ∧ byB ((s.cache.getD b none).getD (s.firm.getD b [])) ∧ ∀ c ∈ outS s.out b, byB c) {Q : D → Heap → Prop}
    (hQ : ∀ h2 d, SlOwn h2 d 1 ((ddF ([s.firm.getD b [], (s.cache.getD b none).getD (s.firm.getD b [])] ++ outS s.out b)).map bD) (ddF ([s.firm.getD b [], (s.cache.getD b none).getD (s.firm.getD b [])] ++ outS s.out b)).length → (∀ j c, h j = some c → h2 j = some c ∧ Fr d j) → Q d h2) :
    Con Try.prog 41 [.pt k 0, .int .i64 b] h Q := by
  refine con_of_W mixed Try.func41 A41k A41c (by simp [A41]) ?_
  simp only [A41, argEnv]
  have c1 := PK.val Kl_vs rfl (fun h2 (hs : Sub h h2) => latest_con (H.mono hs) hf hcl hp b hb)
  have hst := H.st
  have hF := H.f
  have hO := H.o
  have hlen := hO.len
  have hfl : (s.firm.map bD).length = s.firm.length := List.length_map _
  have g1 : (s.firm.map bD)[b]? = some (bD (s.firm.getD b [])) := by rw [List.getElem?_map, List.getD_eq_getElem?_getD, List.getElem?_eq_getElem hb]; rfl
  obtain ⟨hy1, hy2, hy3⟩ := hby
  generalize (s.cache.getD b none).getD (s.firm.getD b []) = La at *
  generalize s.firm.getD b [] = Fi at *
  repeat' (first | (with_reducible first | refine W_seq ?_ | refine then_n ?_ | refine W_block ?_) | ((with_reducible refine s_reg ?_); intro K hK) | ((with_reducible refine k_nil ?_); (with_reducible apply s_nil hK); (· exact nmX); clear hK; clear K) | ((with_reducible refine k_mv ?_); (refine s_mv rfl ?_)) | ((with_reducible refine k_len ?_); (((with_reducible apply s_len); (· rfl); (· assumption)))) | ((with_reducible refine k_iaddr ?_); (((with_reducible apply s_iaddrO); (· rfl); (· rfl); (· (omega)); (· (exact hpX))))) | ((with_reducible refine k_load ?_); (((with_reducible apply s_loadP); (· rfl); (· (exact hpX))))) | ((with_reducible refine k_faddr ?_); (((with_reducible apply s_faddrP); (· rfl); (· rfl)))) | ((with_reducible refine k_buildS (dst := some 21) ?_); ((with_reducible apply s_buildS); (· rfl); (· (exact ⟨rfl, by decide⟩)); (· ((simp only [fillB, rep, splice, List.reduceReplicate, List.flatten_cons, List.flatten_nil, List.cons_append, List.nil_append, List.append_nil, List.length_cons, List.length_nil, Nat.reduceAdd, Nat.reduceMul, Nat.reduceLeDiff, Nat.reduceEqDiff, eq_self, Nat.le_refl, Nat.zero_add, and_self, and_true, true_and, if_true, List.take_zero, List.take_succ_cons, List.drop_zero, List.drop_succ_cons, List.drop_nil, List.take_nil]; rfl))); intro k21 hk21; (try simp only [upd_none] at hk21))) | ((with_reducible refine k_nilck ?_); (((with_reducible apply s_nilckP); (· rfl)))) | ((with_reducible refine k_dreg ?_); refine W_dregM (pre := A41d2a) (suf := A41d2b) rfl rfl rfl rfl ?_; intro K hK) | (with_reducible refine d_nilS ?_) | ((with_reducible refine k_dcall ?_); (((with_reducible apply d_callK); (· rfl); (· exact c1); (· rfl)))) | ((with_reducible refine k_dop ?_); refine d_step (by first | exact Or.inl rfl | exact Or.inr rfl) ?_) | (with_reducible refine d_back ?_) | (((with_reducible apply q_eqN)); ((simp (disch := omega) only [w64, wu8, wu16, wu32, wu64, tm_nn, td_nn, fd_nn, Int.reduceAdd, Int.reduceSub, Int.reduceMul, Int.reduceDiv, Int.reduceMod, Int.reduceNeg, Int.reduceToNat, Int.toNat_natCast, Int.toNat_zero, Int.zero_add, Int.add_zero, Int.one_mul, Int.reducePow, Nat.mul_one, Nat.zero_add, Nat.add_zero, Nat.zero_mul, Nat.reduceAdd, Nat.reduceMul, Nat.reduceSub, Nat.min_eq_left, IntKind.bits, Nat.sub_zero, g1]; try rfl; done))) | (((with_reducible apply q_eqO)); ((simp (disch := omega) only [upd_self, upd_ne, upd_upd, rep, splice, List.take_succ_cons, List.take_zero, List.drop_succ_cons, List.drop_zero, List.cons_append, List.nil_append, List.append_nil, List.length_cons, List.length_nil, List.reduceReplicate, List.flatten_cons, List.flatten_nil, Nat.reduceAdd, Nat.reduceMul, Nat.reduceSub, Nat.zero_add, Nat.add_zero, List.getElem?_cons_zero, List.getElem?_cons_succ, g1]; try rfl; done))))
  all_goals first | (exfalso; omega) | skip
  have hm0 : ∀ {A : List Bs}, (A.map bD).length = A.length := List.length_map _
  refine W_for s.out.length (fun i st => ∃ h' d, st = ⟨[(1, .int .i64 b), (5, d), (25, dO), (26, .int .i64 s.out.length), (27, .int .i64 i)], h'⟩ ∧ SlOwn h' d 1 (([Fi, La] ++ outS (s.out.take i) b).map bD) ([Fi, La] ++ outS (s.out.take i) b).length ∧ ∀ j c, h j = some c → h' j = some c ∧ Fr d j) ⟨_, _, rfl, SlOwn.sl upd_self rfl, fun j c hj => ⟨upd_sub hk21 j c hj, Fr.sl (fun e => by rw [e] at hk21; rw [hk21] at hj; cases hj)⟩⟩ ?_ ?_
  · rintro i e' h' hi ⟨h1, d, he, ho, hk⟩
    cases he
    obtain ⟨kO, tl, t, rfl, hO2, ht⟩ := hO.pos (by omega)
    have hrow : (((s.out.flatMap Wr.cells ++ tl).drop (i * 3)).take 3) = [.int .i64 s.out[i].id, .int .i64 s.out[i].block, bD s.out[i].data] := by
      rw [List.drop_append_of_le_length (by rw [wrs_len]; omega), List.take_append_of_le_length (by rw [List.length_drop, wrs_len]; omega)]; exact wrr hi
    have hO3 := (hk kO _ hO2).1
    have hll : (s.out.flatMap Wr.cells ++ tl).length = s.out.length * 3 + t * 3 := by rw [List.length_append, wrs_len, ht]
    have hL2 : ([Fi, La] ++ outS (s.out.take i) b).length ≤ 1002 := by
      have : (outS (s.out.take i) b).length ≤ (s.out.take i).length := by unfold outS; rw [List.length_map]; exact List.length_filter_le _ _
      rw [List.length_take] at this
      rw [List.length_append]; simp only [List.length_cons, List.length_nil]; omega
    rw [outS_s hi, ← List.append_assoc]
    generalize [Fi, La] ++ outS (s.out.take i) b = L at *
    have hm1 : (L.map bD).length = L.length := List.length_map _
    by_cases hb1 : s.out[i].block = b
    · rw [if_pos hb1]
      rw [hb1] at hrow
      generalize s.out[i].data = x at *
      generalize s.out[i].id = y at *
      repeat' (first | (with_reducible first | refine W_seq ?_ | refine then_n ?_ | refine W_block ?_ | refine blk_n ?_ | refine W_skip ?_) | ((with_reducible refine s_reg ?_); intro K hK) | ((with_reducible refine k_nil ?_); (with_reducible apply s_nil hK); (· exact nmX); clear hK; clear K) | ((with_reducible refine k_cond ?_); (((with_reducible apply s_condT); (· rfl); (· exact nmX)))) | ((with_reducible refine k_mv ?_); (refine s_mv rfl ?_)) | ((with_reducible refine k_eql ?_); ((refine s_eql rfl rfl ?_))) | ((with_reducible refine k_lss ?_); (refine s_lss rfl rfl ?_)) | ((with_reducible refine k_iaddr ?_); (((with_reducible apply s_iaddrO); (· rfl); (· rfl); (· (omega)); (· (exact hpX))))) | ((with_reducible refine k_load ?_); (((with_reducible apply s_loadP); (· rfl); (· (exact hpX))))) | ((with_reducible refine k_loadA ?_); (((with_reducible apply s_loadAP); (· rfl); (· (exact hpX)); (· (omega))))) | ((with_reducible refine k_add ?_); ((with_reducible apply s_add); (· rfl); (· rfl))) | ((with_reducible refine k_store ?_); ((with_reducible apply s_store0); (· rfl); (· rfl); (· rfl); (· (exact hpX)); (· (exact ⟨rfl, by exact Nat.le_of_ble_eq_true rfl⟩)); (· (((simp (disch := omega) only [upd_self, upd_ne, upd_upd, rep, splice, List.take_succ_cons, List.take_zero, List.drop_succ_cons, List.drop_zero, List.cons_append, List.nil_append, List.append_nil, List.length_cons, List.length_nil, List.reduceReplicate, List.flatten_cons, List.flatten_nil, Nat.reduceAdd, Nat.reduceMul, Nat.reduceSub, Nat.zero_add, Nat.add_zero, List.getElem?_cons_zero, List.getElem?_cons_succ, hrow]; try rfl; done)))); (· (exact upd_upd)))) | ((with_reducible refine k_faddr ?_); (((with_reducible apply s_faddrP); (· rfl); (· rfl)))) | ((with_reducible refine k_alloc (dst := some 7) ?_); ((with_reducible apply s_alloc); intro k7 hk7; (try simp only [upd_none] at hk7))) | ((with_reducible refine k_buildS (dst := some 38) ?_); ((with_reducible apply s_buildS); (· rfl); (· (exact ⟨rfl, by decide⟩)); (· ((simp only [fillB, rep, splice, List.reduceReplicate, List.flatten_cons, List.flatten_nil, List.cons_append, List.nil_append, List.append_nil, List.length_cons, List.length_nil, Nat.reduceAdd, Nat.reduceMul, Nat.reduceLeDiff, Nat.reduceEqDiff, eq_self, Nat.le_refl, Nat.zero_add, and_self, and_true, true_and, if_true, List.take_zero, List.take_succ_cons, List.drop_zero, List.drop_succ_cons, List.drop_nil, List.take_nil]; rfl))); intro k38 hk38; (try simp only [upd_none] at hk38))) | ((with_reducible refine k_append (dst := some 39) ?_); ((with_reducible apply s_app2); (· rfl); (· rfl); (· first | ((repeat' (first | assumption | (with_reducible apply SlOwn.upd) | (simp only [upd_none]; assumption))); done)); (· rfl); (· first | exact srcD_sl upd_self rfl); (· exact ⟨by rfl, by decide, by decide⟩); (· first | (rw [room_n]; omega)); intro ka39 ha39 hn39 hk39 hoth39)) | ((with_reducible refine k_br ?_); ((refine Br_t (by first | with_reducible rfl | omega) ?_))) | ((first | (with_reducible apply q_eqI) | (with_reducible apply q_eqN)); ((simp (disch := omega) only [w64, wu8, wu16, wu32, wu64, tm_nn, td_nn, fd_nn, Int.reduceAdd, Int.reduceSub, Int.reduceMul, Int.reduceDiv, Int.reduceMod, Int.reduceNeg, Int.reduceToNat, Int.toNat_natCast, Int.toNat_zero, Int.zero_add, Int.add_zero, Int.one_mul, Int.reducePow, Nat.mul_one, Nat.zero_add, Nat.add_zero, Nat.zero_mul, Nat.reduceAdd, Nat.reduceMul, Nat.reduceSub, Nat.min_eq_left, IntKind.bits, Nat.sub_zero, hrow]; try rfl; done))) | ((first | (with_reducible apply q_eqL) | (with_reducible apply q_eqO)); ((simp (disch := omega) only [upd_self, upd_ne, upd_upd, rep, splice, List.take_succ_cons, List.take_zero, List.drop_succ_cons, List.drop_zero, List.cons_append, List.nil_append, List.append_nil, List.length_cons, List.length_nil, List.reduceReplicate, List.flatten_cons, List.flatten_nil, Nat.reduceAdd, Nat.reduceMul, Nat.reduceSub, Nat.zero_add, Nat.add_zero, List.getElem?_cons_zero, List.getElem?_cons_succ, hrow]; try rfl; done))))
      all_goals first | (exfalso; omega) | skip
      rw [List.map_append, List.length_append, List.length_singleton]
      refine ⟨_, _, rfl, SlOwn.sl hk39 (by rw [List.length_append, hm1, Nat.mul_one]; rfl), ?_⟩
      exact fr_step hk (fun j c hj => upd_sub (by rw [upd_ne hk38.1]; exact hk38.2) j c (upd_sub hk7 j c hj)) hn39 hoth39
    · rw [if_neg hb1, List.append_nil]
      generalize s.out[i].data = x at *
      generalize s.out[i].id = y at *
      generalize s.out[i].block = z at *
      repeat' (first | (with_reducible first | refine W_seq ?_ | refine then_n ?_ | refine W_block ?_ | refine blk_n ?_ | refine W_skip ?_) | ((with_reducible refine s_reg ?_); intro K hK) | ((with_reducible refine k_nil ?_); (with_reducible apply s_nil hK); (· exact nmX); clear hK; clear K) | ((with_reducible refine k_cond ?_); (first | ((with_reducible apply s_condT); (· rfl); (· exact nmX)) | ((with_reducible apply s_condF); (· rfl); (· exact nmX)))) | ((with_reducible refine k_mv ?_); (refine s_mv rfl ?_)) | ((with_reducible refine k_eql ?_); ((refine s_eql rfl rfl ?_))) | ((with_reducible refine k_lss ?_); (refine s_lss rfl rfl ?_)) | ((with_reducible refine k_iaddr ?_); (((with_reducible apply s_iaddrO); (· rfl); (· rfl); (· (omega)); (· (exact hpX))))) | ((with_reducible refine k_load ?_); (((with_reducible apply s_loadP); (· rfl); (· (exact hpX))))) | ((with_reducible refine k_loadA ?_); (((with_reducible apply s_loadAP); (· rfl); (· (exact hpX)); (· (omega))))) | ((with_reducible refine k_add ?_); ((with_reducible apply s_add); (· rfl); (· rfl))) | ((with_reducible refine k_store ?_); ((with_reducible apply s_store0); (· rfl); (· rfl); (· rfl); (· (exact hpX)); (· (exact ⟨rfl, by exact Nat.le_of_ble_eq_true rfl⟩)); (· (((simp (disch := omega) only [upd_self, upd_ne, upd_upd, rep, splice, List.take_succ_cons, List.take_zero, List.drop_succ_cons, List.drop_zero, List.cons_append, List.nil_append, List.append_nil, List.length_cons, List.length_nil, List.reduceReplicate, List.flatten_cons, List.flatten_nil, Nat.reduceAdd, Nat.reduceMul, Nat.reduceSub, Nat.zero_add, Nat.add_zero, List.getElem?_cons_zero, List.getElem?_cons_succ, hrow]; try rfl; done)))); (· (exact upd_upd)))) | ((with_reducible refine k_faddr ?_); (((with_reducible apply s_faddrP); (· rfl); (· rfl)))) | ((with_reducible refine k_alloc (dst := some 7) ?_); ((with_reducible apply s_alloc); intro k7 hk7; (try simp only [upd_none] at hk7))) | ((with_reducible refine k_br ?_); (first | (refine Br_t (by omega) ?_) | (refine Br_f (by omega) ?_))) | ((first | (with_reducible apply q_eqI) | (with_reducible apply q_eqN)); ((simp (disch := omega) only [w64, wu8, wu16, wu32, wu64, tm_nn, td_nn, fd_nn, Int.reduceAdd, Int.reduceSub, Int.reduceMul, Int.reduceDiv, Int.reduceMod, Int.reduceNeg, Int.reduceToNat, Int.toNat_natCast, Int.toNat_zero, Int.zero_add, Int.add_zero, Int.one_mul, Int.reducePow, Nat.mul_one, Nat.zero_add, Nat.add_zero, Nat.zero_mul, Nat.reduceAdd, Nat.reduceMul, Nat.reduceSub, Nat.min_eq_left, IntKind.bits, Nat.sub_zero, hrow]; try rfl; done))) | ((first | (with_reducible apply q_eqL) | (with_reducible apply q_eqO)); ((simp (disch := omega) only [upd_self, upd_ne, upd_upd, rep, splice, List.take_succ_cons, List.take_zero, List.drop_succ_cons, List.drop_zero, List.cons_append, List.nil_append, List.append_nil, List.length_cons, List.length_nil, List.reduceReplicate, List.flatten_cons, List.flatten_nil, Nat.reduceAdd, Nat.reduceMul, Nat.reduceSub, Nat.zero_add, Nat.add_zero, List.getElem?_cons_zero, List.getElem?_cons_succ, hrow]; try rfl; done))))
      all_goals first | (exfalso; omega) | skip
      exact ⟨_, _, rfl, slSub ho (upd_sub hk7), fun j c hj => ⟨upd_sub hk7 j c (hk j c hj).1, (hk j c hj).2⟩⟩
  · rintro e' h' ⟨h1, d, he, ho, hk⟩
    cases he
    rw [List.take_length] at ho
    have hL2 : ([Fi, La] ++ outS s.out b).length ≤ 1002 := by
      have : (outS s.out b).length ≤ s.out.length := by unfold outS; rw [List.length_map]; exact List.length_filter_le _ _
      rw [List.length_append]; simp only [List.length_cons, List.length_nil]; omega
    have hby : ∀ c ∈ [Fi, La] ++ outS s.out b, byB c := by
      intro c hc
      rcases List.mem_append.1 hc with h2 | h2
      · simp at h2; rcases h2 with rfl | rfl <;> assumption
      · exact hy3 c h2
    generalize [Fi, La] ++ outS s.out b = L at *
    have hm1 : (L.map bD).length = L.length := List.length_map _
    repeat' (first | (with_reducible first | refine W_seq ?_ | refine then_n ?_ | refine W_block ?_ | refine blk_e ?_ | refine W_exit ?_ | refine then_e ?_) | ((with_reducible refine s_reg ?_); intro K hK) | ((with_reducible refine k_nil ?_); (with_reducible apply s_nil hK); (· exact nmX); clear hK; clear K) | ((with_reducible refine k_cond ?_); (((with_reducible apply s_condF); (· rfl); (· exact nmX)))) | ((with_reducible refine k_mv ?_); (refine s_mv rfl ?_)) | ((with_reducible refine k_len ?_); (((with_reducible apply s_len); (· rfl); (· exact SlOwn.len (by assumption))))) | ((with_reducible refine k_lss ?_); (refine s_lss rfl rfl ?_)) | ((with_reducible refine k_br ?_); ((refine Br_f (by omega) ?_))))
    all_goals first | (exfalso; omega) | skip
    refine W_for L.length (fun i st => ∃ h2 d8, st = ⟨[(8, d8), (41, d), (42, .int .i64 L.length), (43, .int .i64 i)], h2⟩ ∧ SlOwn h2 d8 1 ((ddF (L.take i)).map bD) (ddF (L.take i)).length ∧ ∀ j c, h' j = some c → h2 j = some c ∧ Fr d8 j) ⟨_, _, rfl, SlOwn.nil, fun j c hj => ⟨hj, Fr.nil⟩⟩ ?_ ?_
    · rintro i e' h2 hi ⟨h1, d8, he, ho8, hk8⟩
      cases he
      obtain ⟨kd, rfl, hkd⟩ := ho.pos (by omega)
      have hkd2 := (hk8 kd _ hkd).1
      have hg := bsg hi
      have hx := hby L[i] (List.getElem_mem hi)
      have hin : ∀ c ∈ ddF (L.take i), byB c := fun c hc => hby c (List.mem_of_mem_take ((ddF_mem _).1 hc))
      have hln : (ddF (L.take i)).length ≤ 1002 := by
        have := ddF_len (L.take i)
        rw [List.length_take] at this
        omega
      rw [take_s hi, ddF_snoc]
      generalize L[i] = x at *
      generalize ddF (L.take i) = A at *
      have cc := bcont_c A (by omega) 68 x (fun c hc => eq1_c c x (hin c hc) hx)
      have hm2 : (A.map bD).length = A.length := List.length_map _
      by_cases hxa : x ∈ A
      · rw [decide_eq_true hxa] at cc
        rw [show putB A x = A from if_pos hxa]
        repeat' (first | (with_reducible first | refine W_seq ?_ | refine then_n ?_ | refine W_block ?_ | refine blk_n ?_ | refine W_skip ?_) | ((with_reducible refine s_reg ?_); intro K hK) | ((with_reducible refine k_nil ?_); (with_reducible apply s_nil hK); (· exact nmX); clear hK; clear K) | ((with_reducible refine k_cond ?_); (first | ((with_reducible apply s_condT); (· rfl); (· exact nmX)) | ((with_reducible apply s_condF); (· rfl); (· exact nmX)))) | ((with_reducible refine k_mv ?_); (refine s_mv rfl ?_)) | ((with_reducible refine k_not ?_); (refine s_not rfl (by exact Bool.not_true) ?_)) | ((with_reducible refine k_lss ?_); (refine s_lss rfl rfl ?_)) | ((with_reducible refine k_iaddr ?_); (((with_reducible apply s_iaddrO); (· rfl); (· rfl); (· (omega)); (· (exact hpX))))) | ((with_reducible refine k_load ?_); (((with_reducible apply s_loadP); (· rfl); (· (exact hpX))))) | ((with_reducible refine k_add ?_); ((with_reducible apply s_add); (· rfl); (· rfl))) | ((with_reducible refine k_store ?_); ((with_reducible apply s_store0); (· rfl); (· rfl); (· rfl); (· (exact hpX)); (· (exact ⟨rfl, by exact Nat.le_of_ble_eq_true rfl⟩)); (· (((simp (disch := omega) only [upd_self, upd_ne, upd_upd, rep, splice, List.take_succ_cons, List.take_zero, List.drop_succ_cons, List.drop_zero, List.cons_append, List.nil_append, List.append_nil, List.length_cons, List.length_nil, List.reduceReplicate, List.flatten_cons, List.flatten_nil, Nat.reduceAdd, Nat.reduceMul, Nat.reduceSub, Nat.zero_add, Nat.add_zero, List.getElem?_cons_zero, List.getElem?_cons_succ, hg]; try rfl; done)))); (· (exact upd_upd)))) | ((with_reducible refine k_alloc (dst := some 10) ?_); ((with_reducible apply s_alloc); intro k10 hk10; (try simp only [upd_none] at hk10))) | ((with_reducible refine k_mkfn ?_); ((with_reducible apply s_mkfn); (· rfl); (· rfl))) | ((with_reducible refine k_callF ?_); (((with_reducible apply s_call1); (· rfl)))) | ((with_reducible refine k_con ?_); (((with_reducible apply con_val (cc)); (· (repeat (first | exact All2.nil | (apply All2.cons; (· first | exact Rd_soB (slSub ho8 (upd_sub (by assumption))) | exact (Rd_fnR All2.nil (All2.cons (Rd_ptR upd_self (All2.cons Rd_vs All2.nil) (by simp)) All2.nil))))))); (· rfl); (· exact fun _ => rfl)))) | ((with_reducible refine k_br ?_); ((refine Br_t (by omega) ?_))) | ((first | (with_reducible apply q_eqI) | (with_reducible apply q_eqN)); ((simp (disch := omega) only [w64, wu8, wu16, wu32, wu64, tm_nn, td_nn, fd_nn, Int.reduceAdd, Int.reduceSub, Int.reduceMul, Int.reduceDiv, Int.reduceMod, Int.reduceNeg, Int.reduceToNat, Int.toNat_natCast, Int.toNat_zero, Int.zero_add, Int.add_zero, Int.one_mul, Int.reducePow, Nat.mul_one, Nat.zero_add, Nat.add_zero, Nat.zero_mul, Nat.reduceAdd, Nat.reduceMul, Nat.reduceSub, Nat.min_eq_left, IntKind.bits, Nat.sub_zero, hg]; try rfl; done))) | (((with_reducible apply q_eqO)); ((simp (disch := omega) only [upd_self, upd_ne, upd_upd, rep, splice, List.take_succ_cons, List.take_zero, List.drop_succ_cons, List.drop_zero, List.cons_append, List.nil_append, List.append_nil, List.length_cons, List.length_nil, List.reduceReplicate, List.flatten_cons, List.flatten_nil, Nat.reduceAdd, Nat.reduceMul, Nat.reduceSub, Nat.zero_add, Nat.add_zero, List.getElem?_cons_zero, List.getElem?_cons_succ, hg]; try rfl; done))))
        all_goals first | (exfalso; omega) | skip
        exact ⟨_, _, rfl, slSub ho8 (upd_sub hk10), fun j c hj => ⟨upd_sub hk10 j c (hk8 j c hj).1, (hk8 j c hj).2⟩⟩
      · rw [decide_eq_false hxa] at cc
        rw [show putB A x = A ++ [x] from if_neg hxa]
        repeat' (first | (with_reducible first | refine W_seq ?_ | refine then_n ?_ | refine W_block ?_ | refine blk_n ?_ | refine W_skip ?_) | ((with_reducible refine s_reg ?_); intro K hK) | ((with_reducible refine k_nil ?_); (with_reducible apply s_nil hK); (· exact nmX); clear hK; clear K) | ((with_reducible refine k_cond ?_); (((with_reducible apply s_condT); (· rfl); (· exact nmX)))) | ((with_reducible refine k_mv ?_); (refine s_mv rfl ?_)) | ((with_reducible refine k_not ?_); (refine s_not rfl (by exact Bool.not_false) ?_)) | ((with_reducible refine k_lss ?_); (refine s_lss rfl rfl ?_)) | ((with_reducible refine k_iaddr ?_); (((with_reducible apply s_iaddrO); (· rfl); (· rfl); (· (omega)); (· (exact hpX))))) | ((with_reducible refine k_load ?_); (((with_reducible apply s_loadP); (· rfl); (· (exact hpX))))) | ((with_reducible refine k_add ?_); ((with_reducible apply s_add); (· rfl); (· rfl))) | ((with_reducible refine k_store ?_); ((with_reducible apply s_store0); (· rfl); (· rfl); (· rfl); (· (exact hpX)); (· (exact ⟨rfl, by exact Nat.le_of_ble_eq_true rfl⟩)); (· (((simp (disch := omega) only [upd_self, upd_ne, upd_upd, rep, splice, List.take_succ_cons, List.take_zero, List.drop_succ_cons, List.drop_zero, List.cons_append, List.nil_append, List.append_nil, List.length_cons, List.length_nil, List.reduceReplicate, List.flatten_cons, List.flatten_nil, Nat.reduceAdd, Nat.reduceMul, Nat.reduceSub, Nat.zero_add, Nat.add_zero, List.getElem?_cons_zero, List.getElem?_cons_succ, hg]; try rfl; done)))); (· (exact upd_upd)))) | ((with_reducible refine k_alloc (dst := some 10) ?_); ((with_reducible apply s_alloc); intro k10 hk10; (try simp only [upd_none] at hk10))) | ((with_reducible refine k_buildS (dst := some 53) ?_); ((with_reducible apply s_buildS); (· rfl); (· (exact ⟨rfl, by decide⟩)); (· ((simp only [fillB, rep, splice, List.reduceReplicate, List.flatten_cons, List.flatten_nil, List.cons_append, List.nil_append, List.append_nil, List.length_cons, List.length_nil, Nat.reduceAdd, Nat.reduceMul, Nat.reduceLeDiff, Nat.reduceEqDiff, eq_self, Nat.le_refl, Nat.zero_add, and_self, and_true, true_and, if_true, List.take_zero, List.take_succ_cons, List.drop_zero, List.drop_succ_cons, List.drop_nil, List.take_nil]; rfl))); intro k53 hk53; (try simp only [upd_none] at hk53))) | ((with_reducible refine k_mkfn ?_); ((with_reducible apply s_mkfn); (· rfl); (· rfl))) | ((with_reducible refine k_append (dst := some 54) ?_); ((with_reducible apply s_app2); (· rfl); (· rfl); (· first | ((repeat' (first | assumption | (with_reducible apply SlOwn.upd) | (simp only [upd_none]; assumption))); done)); (· rfl); (· first | exact srcD_sl upd_self rfl); (· exact ⟨by rfl, by decide, by decide⟩); (· first | (rw [room_n]; omega)); intro ka54 ha54 hn54 hk54 hoth54)) | ((with_reducible refine k_callF ?_); (((with_reducible apply s_call1); (· rfl)))) | ((with_reducible refine k_con ?_); (((with_reducible apply con_val (cc)); (· (repeat (first | exact All2.nil | (apply All2.cons; (· first | exact Rd_soB (slSub ho8 (upd_sub (by assumption))) | exact (Rd_fnR All2.nil (All2.cons (Rd_ptR upd_self (All2.cons Rd_vs All2.nil) (by simp)) All2.nil))))))); (· rfl); (· exact fun _ => rfl)))) | ((with_reducible refine k_br ?_); ((refine Br_t (by omega) ?_))) | ((first | (with_reducible apply q_eqI) | (with_reducible apply q_eqN)); ((simp (disch := omega) only [w64, wu8, wu16, wu32, wu64, tm_nn, td_nn, fd_nn, Int.reduceAdd, Int.reduceSub, Int.reduceMul, Int.reduceDiv, Int.reduceMod, Int.reduceNeg, Int.reduceToNat, Int.toNat_natCast, Int.toNat_zero, Int.zero_add, Int.add_zero, Int.one_mul, Int.reducePow, Nat.mul_one, Nat.zero_add, Nat.add_zero, Nat.zero_mul, Nat.reduceAdd, Nat.reduceMul, Nat.reduceSub, Nat.min_eq_left, IntKind.bits, Nat.sub_zero, hg]; try rfl; done))) | (((with_reducible apply q_eqO)); ((simp (disch := omega) only [upd_self, upd_ne, upd_upd, rep, splice, List.take_succ_cons, List.take_zero, List.drop_succ_cons, List.drop_zero, List.cons_append, List.nil_append, List.append_nil, List.length_cons, List.length_nil, List.reduceReplicate, List.flatten_cons, List.flatten_nil, Nat.reduceAdd, Nat.reduceMul, Nat.reduceSub, Nat.zero_add, Nat.add_zero, List.getElem?_cons_zero, List.getElem?_cons_succ, hg]; try rfl; done))))
        all_goals first | (exfalso; omega) | skip
        rw [List.map_append, List.length_append, List.length_singleton]
        refine ⟨_, _, rfl, SlOwn.sl hk54 (by rw [List.length_append, hm2, Nat.mul_one]; rfl), ?_⟩
        exact fr_step hk8 (fun j c hj => upd_sub (by rw [upd_ne hk53.1]; exact hk53.2) j c (upd_sub hk10 j c hj)) hn54 hoth54
    · rintro e' h2 ⟨h1, d8, he, ho8, hk8⟩
      cases he
      rw [List.take_length] at ho8
      repeat' (first | (with_reducible first | refine W_seq ?_ | refine then_n ?_ | refine blk_e ?_ | refine W_ret ?_ | refine W_exit ?_ | refine then_e ?_) | ((with_reducible refine s_reg ?_); intro K hK) | ((with_reducible refine k_nil ?_); (with_reducible apply s_nil hK); (· exact nmX); clear hK; clear K) | ((with_reducible refine k_cond ?_); (((with_reducible apply s_condF); (· rfl); (· exact nmX)))) | ((with_reducible refine k_mv ?_); (refine s_mv rfl ?_)) | ((with_reducible refine k_lss ?_); (refine s_lss rfl rfl ?_)) | ((with_reducible refine k_br ?_); ((refine Br_f (by omega) ?_))))
      all_goals first | (exfalso; omega) | exact ⟨trivial, _, rfl, hQ _ _ ho8 (fun j c hj => hk8 j c (hk j c hj).1)⟩
end Go.Proofs.Ythblalidmmbcoaa
end
section
/- min -/
/- Choices, Allows. -/
set_option linter.unusedSimpArgs false
set_option linter.unusedVariables false
namespace Go.Proofs.Ythblalidmmbcoaa
open Go.AM Classical
set_option maxRecDepth 100000
set_option maxHeartbeats 4000000
structure HOk (B : List Bs) (l : List Ev) : Prop where
  nB : B.length ≤ 1000000
  nL : l.length ≤ 900
  id : ∀ x ∈ l, -9223372036854775808 ≤ x.id ∧ x.id ≤ 9223372036854775807
  by1 : ∀ b ∈ B, byB b
  by2 : ∀ x ∈ l, byB x.data
theorem HOk.upto {B : List Bs} {l : List Ev} (H : HOk B l) (n : Nat) {b : Nat} (hb : b < B.length) : byB (uptoF B l n b) := by
  rcases upto_in (B := B) (l := l) (n := n) hb with h | ⟨x, hx, h⟩
  · exact H.by1 _ h
  · rw [h]; exact H.by2 x hx
theorem HOk.outF {B : List Bs} {l : List Ev} (H : HOk B l) {n : Nat} {b : Int} {c : Bs} (h : c ∈ outF l n b) : byB c := by
  obtain ⟨x, hx, rfl⟩ := outF_in h; exact H.by2 x hx
theorem HOk.ch {B : List Bs} {l : List Ev} (H : HOk B l) {b : Nat} (hb : b < B.length) {c : Bs} (h : c ∈ chF B l b) : byB c := by
  unfold chF at h
  rw [ddF_mem] at h
  rcases List.mem_append.1 h with h | h
  · simp at h; rcases h with rfl | rfl <;> exact H.upto _ hb
  · exact H.outF h
theorem ch_32 {B : List Bs} {l : List Ev} (hc : chkR B l = 0) {b : Nat} (hb : b < B.length) {c : Bs} (h : c ∈ chF B l b) : c.length = 32 := by
  obtain ⟨hok, I⟩ := chk_inv hc
  have := lat_32 hok (Nat.le_refl _) (chk_zero hc) I hb
  unfold chF at h
  rw [ddF_mem] at h
  rcases List.mem_append.1 h with h | h
  · simp at h; rcases h with rfl | rfl
    · exact this.2
    · exact this.1
  · exact outF_32 I h
theorem ch_len {B : List Bs} {l : List Ev} {b : Nat} : (chF B l b).length ≤ l.length + 2 := by
  unfold chF
  refine Nat.le_trans (ddF_len _) ?_
  have : (outF l l.length b).length ≤ l.length := by
    unfold outF
    rw [List.length_map]
    refine Nat.le_trans (List.length_filter_le _ _) ?_
    rw [List.length_take]; omega
  rw [List.length_append]; simp only [List.length_cons, List.length_nil]; omega
theorem stch_con {B : List Bs} {l : List Ev} (Ho : HOk B l) (hc : chkR B l = 0) {h : Heap} {k kF kC : Nat} {dO : D} (H : StH h k kF kC dO (stS B l l.length)) (b : Nat) (hb : b < B.length) {Q : D → Heap → Prop} (hQ : ∀ h2 d, SlOwn h2 d 1 ((chF B l b).map bD) (chF B l b).length → (∀ j c, h j = some c → h2 j = some c ∧ Fr d j) → Q d h2) :
    Con Try.prog 41 [.pt k 0, .int .i64 b] h Q := by
  obtain ⟨hok, I⟩ := chk_inv hc
  obtain ⟨m1, m2, m3⟩ := st_more (Nat.le_refl _) (chk_zero hc)
  have hF := I.firmL
  have hC := I.cacheL
  have hL := Ho.nL
  have e1 := I.firm b hb
  have e2 := I.lat b hb
  have e3 := outS_eq I (b : Int)
  have key := choices_con (Q := Q) H (by have := Ho.nB; omega) (by omega) (fun c hc => by rw [m1 c hc]; omega) (by omega) b (by omega)
  rw [e2, e1, e3] at key
  exact key ⟨Ho.upto _ hb, Ho.upto _ hb, fun c h => Ho.outF h⟩ hQ
theorem stch_fz {B : List Bs} {l : List Ev} (Ho : HOk B l) (hc : chkR B l = 0) {h : Heap} {k kF kC : Nat} {dO : D} (H : StH h k kF kC dO (stS B l l.length)) (b : Nat) (hb : b < B.length) : Con Try.prog 41 [.pt k 0, .int .i64 b] h (fun d h' => d = bsD (chF B l b) ∧ h' = h) :=
  con_fin bDs_kl (stch_con Ho hc H b hb fun h2 d so hh => ⟨so, hh⟩)
theorem stch_pk {B : List Bs} {l : List Ev} (Ho : HOk B l) (hc : chkR B l = 0) {h : Heap} {k kF kC : Nat} {dO : D} (H : StH h k kF kC dO (stS B l l.length)) (b : Nat) (hb : b < B.length) : PK Try.prog h [.pt k 0, .int .i64 b] 41 (bsD (chF B l b)) :=
  PK.val Kl_vs rfl fun h2 hs => stch_fz Ho hc (H.mono hs) b hb
end Go.Proofs.Ythblalidmmbcoaa
end
section
/- min -/
/- A device: copies. -/
set_option linter.unusedSimpArgs false
set_option linter.unusedVariables false
namespace Go.Proofs.Ythblalidmmbcoaa
open Go.AM Classical
set_option maxRecDepth 100000
set_option maxHeartbeats 4000000
abbrev nD (c : Bs) : D := .vn 1 (c.map (.int .u8)) c.length
def Rq.vn (q : Rq) : List D := [.int .i64 q.id, .int .i64 q.kind, .int .i64 q.block, nD q.data]
theorem Rq.vn_len (q : Rq) : q.vn.length = 4 := rfl
def Ca.vn (c : Ca) : List D := [.int .i64 c.block, nD c.data]
theorem Ca.vn_len (c : Ca) : c.vn.length = 2 := rfl
structure CL (h h2 : Heap) (d : Dv) (db dc dq : D) : Prop where
  ob : SlOwn h2 db 1 (d.blocks.map nD) d.blocks.length
  oc : SlOwn h2 dc 2 (d.cache.flatMap Ca.vn) d.cache.length
  oq : SlOwn h2 dq 4 (d.queue.flatMap Rq.vn) d.queue.length
  old : ∀ j c, h j = some c → h2 j = some c ∧ Fr db j ∧ Fr dc j ∧ Fr dq j
  bc : ∀ k s o n, db = .sl k s o n → Fr dc k ∧ Fr dq k
  cq : ∀ k s o n, dc = .sl k s o n → Fr dq k
theorem del_self {h : Heap} {k : Nat} : del h k k = none := if_pos rfl
theorem del_some {h : Heap} {k j : Nat} {c : List D} (hj : del h k j = some c) : j ≠ k ∧ h j = some c := by
  unfold del at hj
  split at hj
  · cases hj
  · rename_i e; exact ⟨e, hj⟩
theorem del_get {h : Heap} {k j : Nat} {c : List D} (hne : j ≠ k) (hj : h j = some c) : del h k j = some c := (if_neg hne).trans hj
theorem so_mv {h h2 : Heap} {d : D} {sz n : Nat} {c : List D} (ho : SlOwn h d sz c n) (hh : ∀ k s o m, d = .sl k s o m → ∀ c, h k = some c → h2 k = some c) : SlOwn h2 d sz c n := by
  obtain ⟨hl, h0 | ⟨k, h1, h3⟩⟩ := ho
  · exact ⟨hl, .inl h0⟩
  · exact ⟨hl, .inr ⟨k, h1, hh k _ _ _ h1 _ h3⟩⟩
theorem so_live {h : Heap} {d : D} {sz n : Nat} {c : List D} (ho : SlOwn h d sz c n) {k s o m : Nat} (e : d = .sl k s o m) : ∃ c, h k = some c := by
  obtain ⟨_, ⟨_, h0 | h0⟩ | ⟨k2, h1, h3⟩⟩ := ho
  · rw [h0] at e; cases e
  · rw [h0] at e; cases e
  · rw [h1] at e; injection e with e; subst e; exact ⟨_, h3⟩
theorem bclone_v (c : Bs) (hc : c.length ≤ 1000000) : PCon Try.prog 63 [bD c] (bD c) := pcon_unow (bclone_c c hc)
theorem clone_k (d : Dv) (ok : DvOk d) (h : Heap) {Q : D → Heap → Prop} (hQ : ∀ h2 db dc dq, CL h h2 d db dc dq → Q (.agg [.int .i64 d.depth, .int .i64 d.next, db, dc, dq]) h2) : Con Try.prog 61 [dvD d] h Q := by
  refine con_of_W mixed Try.func61 A61k A61c (by simp [A61]) ?_
  have hB := bs_len d.blocks
  have hC := cas_len d.cache
  have hQl := rqs_len d.queue
  obtain ⟨k1, k2, k3, k4, k5, k55, k6, k7, k8, k9⟩ := ok
  obtain ⟨depth, next, B, C, Qu⟩ := d
  dsimp only at *
  simp only [A61, argEnv]
  repeat' (first | (with_reducible first | refine W_seq ?_ | refine then_n ?_ | refine W_block ?_) | ((with_reducible refine s_reg ?_); intro K hK) | ((with_reducible refine k_nil ?_); (with_reducible apply s_nil hK); (· exact nmX); clear hK; clear K) | ((with_reducible refine k_mv ?_); (refine s_mv rfl ?_)) | ((with_reducible refine k_len ?_); ((refine s_len rfl rfl ?_))) | ((with_reducible refine k_load ?_); (((with_reducible apply s_loadP); (· rfl); (· (exact hpX))))) | ((with_reducible refine k_store ?_); ((with_reducible apply s_store0); (· rfl); (· rfl); (· rfl); (· (exact hpX)); (· (exact ⟨rfl, by exact Nat.le_of_ble_eq_true rfl⟩)); (· ((exact liL))); (· (exact upd_upd)))) | ((with_reducible refine k_faddr ?_); (((with_reducible apply s_faddrP); (· rfl); (· rfl)))) | ((with_reducible refine k_alloc (dst := some 2) ?_); ((with_reducible apply s_alloc); intro k2 hk2; (try simp only [upd_none] at hk2))) | ((with_reducible refine k_alloc (dst := some 3) ?_); ((with_reducible apply s_alloc); intro k3 hk3; (try simp only [upd_none] at hk3))) | ((with_reducible refine k_box (dst := some 1) ?_); ((with_reducible apply s_box); (· rfl); (· rfl); intro k1 hk1; (try simp only [upd_none] at hk1))) | ((with_reducible refine k_build ?_); ((with_reducible apply s_build); (· rfl); (· rfl))) | (((with_reducible apply q_eqO)); (exact liO)))
  all_goals first | (exfalso; omega) | skip
  have f1 : ∀ j c, h j = some c → upd (upd h k1 (dvL ⟨depth, next, B, C, Qu⟩)) k2 [.int .i64 0, .int .i64 0, .nil, .nil, .nil] j = some c := fun j c hj => upd_sub (by rw [upd_ne hk2.1]; exact hk2.2) _ _ (upd_sub hk1 _ _ hj)
  have f2 : upd (upd h k1 (dvL ⟨depth, next, B, C, Qu⟩)) k2 [.int .i64 0, .int .i64 0, .nil, .nil, .nil] k1 = some (dvL ⟨depth, next, B, C, Qu⟩) := by rw [upd_ne hk2.1.symm]; exact upd_self
  have f3 : upd (upd h k1 (dvL ⟨depth, next, B, C, Qu⟩)) k2 [.int .i64 0, .int .i64 0, .nil, .nil, .nil] k2 = some [.int .i64 0, .int .i64 0, .nil, .nil, .nil] := upd_self
  have f4 : upd (upd h k1 (dvL ⟨depth, next, B, C, Qu⟩)) k2 [.int .i64 0, .int .i64 0, .nil, .nil, .nil] k3 = none := by rw [upd_ne hk3.1, upd_ne hk3.2.1]; exact hk3.2.2
  have f5 := hk3.1
  have f6 := hk3.2.1
  have f7 := hk2.1
  have f8 : ∀ j c, h j = some c → j ≠ k2 ∧ j ≠ k3 := fun j c hj => ⟨(fun e => by rw [e, hk2.2] at hj; cases hj), (fun e => by rw [e, hk3.2.2] at hj; cases hj)⟩
  clear hk1 hk2 hk3
  generalize upd (upd h k1 (dvL ⟨depth, next, B, C, Qu⟩)) k2 [.int .i64 0, .int .i64 0, .nil, .nil, .nil] = hA at *
  refine W_for B.length (fun i st => ∃ d h', st = ⟨[(1, .pt k1 0), (2, .pt k2 0), (3, .pt k3 0), (16, bsD B), (17, .int .i64 B.length), (18, .int .i64 i)], h'⟩ ∧ h' k3 = some [.int .i64 depth, .int .i64 next, d, .nil, .nil] ∧ SlOwn h' d 1 ((B.take i).map nD) i ∧ Fr d k3 ∧ ∀ j c, hA j = some c → h' j = some c ∧ Fr d j)
    ⟨_, _, rfl, upd_self, SlOwn.nil, Fr.nil, fun j c hj => ⟨upd_sub f4 _ _ hj, Fr.nil⟩⟩ ?_ ?_
  · rintro i e' h' hi ⟨d, h1, he, hc3, ho, hf, hk⟩
    cases he
    have hg := bsg hi
    have c1 := bclone_v B[i] (by rw [k4 _ (List.getElem_mem hi)]; omega)
    have ht := take_s hi
    rw [ht, List.map_append]
    generalize B[i] = b at *
    have hll : ((B.take i).map nD).length = i := by simp; omega
    generalize (B.take i).map nD = L at *
    repeat' (first | (with_reducible first | refine W_seq ?_ | refine then_n ?_ | refine W_block ?_ | refine W_skip ?_) | ((with_reducible refine s_reg ?_); intro K hK) | ((with_reducible refine k_nil ?_); (with_reducible apply s_nil hK); (· exact nmX); clear hK; clear K) | ((with_reducible refine k_cond ?_); (((with_reducible apply s_condT); (· rfl); (· exact nmX)))) | ((with_reducible refine k_mv ?_); (refine s_mv rfl ?_)) | ((with_reducible refine k_lss ?_); (refine s_lss rfl rfl ?_)) | ((with_reducible refine k_iaddr ?_); (((with_reducible apply s_iaddrV); (· rfl); (· rfl); (· (omega))))) | ((with_reducible refine k_load ?_); (first | ((with_reducible apply s_loadV); (· rfl)) | ((with_reducible apply s_loadP); (· rfl); (· (exact hpX))))) | ((with_reducible refine k_faddr ?_); (((with_reducible apply s_faddrP); (· rfl); (· rfl)))) | ((with_reducible refine k_buildS (dst := some 26) ?_); ((with_reducible apply s_buildS); (· rfl); (· (exact ⟨rfl, by decide⟩)); (· ((simp only [fillB, rep, splice, List.reduceReplicate, List.flatten_cons, List.flatten_nil, List.cons_append, List.nil_append, List.append_nil, List.length_cons, List.length_nil, Nat.reduceAdd, Nat.reduceMul, Nat.reduceLeDiff, Nat.reduceEqDiff, eq_self, Nat.le_refl, Nat.zero_add, and_self, and_true, true_and, if_true, List.take_zero, List.take_succ_cons, List.drop_zero, List.drop_succ_cons, List.drop_nil, List.take_nil]; rfl))); intro k26 hk26; (try simp only [upd_none] at hk26))) | ((with_reducible refine k_append (dst := some 27) ?_); ((with_reducible apply s_app2); (· rfl); (· rfl); (· first | ((repeat' (first | assumption | (with_reducible apply SlOwn.upd))); done)); (· rfl); (· first | exact srcD_sl upd_self rfl); (· exact ⟨by rfl, by decide, by decide⟩); (· first | (rw [room_n]; omega)); intro ka27 ha27 hn27 hk27 hoth27)) | ((with_reducible refine k_dreg ?_); refine W_dregM (pre := A61d7a) (suf := A61d7b) rfl rfl rfl rfl ?_; intro K hK) | (with_reducible refine d_nilS ?_) | ((with_reducible refine k_dcall ?_); (((with_reducible apply d_callN); (· rfl); (· exact c1); (· (repeat (first | exact All2.nil | (apply All2.cons; (· first | exact rdX))))); simp only [unow, unowC, List.map, vnw, vnC, vnC1]))) | ((with_reducible refine k_dop ?_); refine d_step (by first | exact Or.inl rfl | exact Or.inr rfl) ?_) | (with_reducible refine d_back ?_) | ((with_reducible refine k_br ?_); ((refine Br_t (by omega) ?_))) | (((with_reducible apply q_eqN)); ((simp (disch := omega) only [w64, wu8, wu16, wu32, wu64, tm_nn, td_nn, fd_nn, Int.reduceAdd, Int.reduceSub, Int.reduceMul, Int.reduceDiv, Int.reduceMod, Int.reduceNeg, Int.reduceToNat, Int.toNat_natCast, Int.toNat_zero, Int.zero_add, Int.add_zero, Int.one_mul, Int.reducePow, Nat.mul_one, Nat.zero_add, Nat.add_zero, Nat.zero_mul, Nat.reduceAdd, Nat.reduceMul, Nat.reduceSub, Nat.min_eq_left, IntKind.bits, Nat.sub_zero, hg]; try rfl; done))) | (((with_reducible apply q_eqO)); ((simp (disch := omega) only [upd_self, upd_ne, upd_upd, rep, splice, List.take_succ_cons, List.take_zero, List.drop_succ_cons, List.drop_zero, List.cons_append, List.nil_append, List.append_nil, List.length_cons, List.length_nil, List.reduceReplicate, List.flatten_cons, List.flatten_nil, Nat.reduceAdd, Nat.reduceMul, Nat.reduceSub, Nat.zero_add, Nat.add_zero, List.getElem?_cons_zero, List.getElem?_cons_succ, hg]; try rfl; done))))
    all_goals first | (exfalso; omega) | skip
    have g3 := hoth27 k3 _ (upd_sub hk26 _ _ hc3) hf
    have g4 : ka27 ≠ k3 := fun e => by rw [e, upd_sub hk26 _ _ hc3] at hn27; cases hn27
    clear hc3 hg
    repeat' (first | (with_reducible first | refine then_n ?_ | refine blk_n ?_) | ((with_reducible refine s_reg ?_); intro K hK) | ((with_reducible refine k_nil ?_); (with_reducible apply s_nil hK); (· exact nmX); clear hK; clear K) | ((with_reducible refine k_mv ?_); (refine s_mv rfl ?_)) | ((with_reducible refine k_add ?_); ((with_reducible apply s_add); (· rfl); (· rfl))) | ((with_reducible refine k_store ?_); ((with_reducible apply s_store0); (· rfl); (· rfl); (· rfl); (· (exact hpX)); (· (exact ⟨rfl, by exact Nat.le_of_ble_eq_true rfl⟩)); (· ((exact liL))); (· (rfl)))) | (((with_reducible apply q_eqI)); (exact nuI)))
    all_goals first | (exfalso; omega) | skip
    refine ⟨_, _, rfl, upd_self, SlOwn.sl (by rw [upd_ne g4]; exact hk27) (by rw [List.length_append, hll]; simp), Fr.sl g4, fun j c hj => ?_⟩
    obtain ⟨a1, a2⟩ := fr_step hk (upd_sub hk26) hn27 hoth27 (sz := 1) (off := 0) (n := i + 1) j c hj
    exact ⟨by rw [upd_ne (fun e => by rw [e, f4] at hj; cases hj)]; exact a1, a2⟩
  rintro e' h' ⟨db, h1, he, hc3, ho, hf, hk⟩
  cases he
  rw [List.take_length] at ho
  have g1 := (hk _ _ f2).1
  repeat' (first | (with_reducible first | refine W_seq ?_ | refine then_n ?_ | refine W_block ?_ | refine blk_e ?_ | refine W_exit ?_ | refine then_e ?_) | ((with_reducible refine s_reg ?_); intro K hK) | ((with_reducible refine k_nil ?_); (with_reducible apply s_nil hK); (· exact nmX); clear hK; clear K) | ((with_reducible refine k_cond ?_); (((with_reducible apply s_condF); (· rfl); (· exact nmX)))) | ((with_reducible refine k_mv ?_); (refine s_mv rfl ?_)) | ((with_reducible refine k_len ?_); ((refine s_len rfl rfl ?_))) | ((with_reducible refine k_lss ?_); (refine s_lss rfl rfl ?_)) | ((with_reducible refine k_load ?_); (((with_reducible apply s_loadP); (· rfl); (· (exact hpX))))) | ((with_reducible refine k_faddr ?_); (((with_reducible apply s_faddrP); (· rfl); (· rfl)))) | ((with_reducible refine k_br ?_); ((refine Br_f (by omega) ?_))) | (((with_reducible apply q_eqO)); (exact liO)))
  all_goals first | (exfalso; omega) | skip
  replace hf : Fr db k3 := hf
  have hkb := hk
  clear hk f4
  have d4 : del h' k3 k3 = none := del_self
  have dk : ∀ j c, del h' k3 j = some c → h' j = some c := fun j c hj => (del_some hj).2
  refine W_for C.length (fun i st => ∃ d h2, st = ⟨[(1, .pt k1 0), (2, .pt k2 0), (3, .pt k3 0), (31, casD C), (32, .int .i64 C.length), (33, .int .i64 i)], h2⟩ ∧ h2 k3 = some [.int .i64 depth, .int .i64 next, db, d, .nil] ∧ SlOwn h2 d 2 ((C.take i).flatMap Ca.vn) i ∧ Fr d k3 ∧ ∀ j c, del h' k3 j = some c → h2 j = some c ∧ Fr d j)
    ⟨_, _, rfl, hc3, SlOwn.nil, Fr.nil, fun j c hj => ⟨dk j c hj, Fr.nil⟩⟩ ?_ ?_
  · clear hc3
    rintro i e' h2 hi ⟨d, h1, he, hc3, ho2, hf2, hk⟩
    cases he
    have hrow := car hi
    have c1 := bclone_v C[i].data (by rw [k6 _ (List.getElem_mem hi)]; omega)
    have ht := take_s hi
    rw [ht, List.flatMap_append]
    have hll : ((C.take i).flatMap Ca.vn).length = i * 2 := by rw [fm_len Ca.vn_len, List.length_take]; congr 1; omega
    generalize C[i] = b at *
    obtain ⟨b1, b2⟩ := b
    generalize (C.take i).flatMap Ca.vn = L at *
    dsimp only at *
    repeat' (first | (with_reducible first | refine W_seq ?_ | refine then_n ?_ | refine W_block ?_ | refine W_skip ?_) | ((with_reducible refine s_reg ?_); intro K hK) | ((with_reducible refine k_nil ?_); (with_reducible apply s_nil hK); (· exact nmX); clear hK; clear K) | ((with_reducible refine k_cond ?_); (((with_reducible apply s_condT); (· rfl); (· exact nmX)))) | ((with_reducible refine k_lss ?_); (refine s_lss rfl rfl ?_)) | ((with_reducible refine k_iaddr ?_); (((with_reducible apply s_iaddrV); (· rfl); (· rfl); (· (omega))))) | ((with_reducible refine k_loadA ?_); (((with_reducible apply s_loadAV); (· rfl); (· (omega))))) | ((with_reducible refine k_store ?_); ((with_reducible apply s_store0); (· rfl); (· rfl); (· rfl); (· (exact hpX)); (· (exact ⟨rfl, by exact Nat.le_of_ble_eq_true rfl⟩)); (· (((simp (disch := omega) only [upd_self, upd_ne, upd_upd, rep, splice, List.take_succ_cons, List.take_zero, List.drop_succ_cons, List.drop_zero, List.cons_append, List.nil_append, List.append_nil, List.length_cons, List.length_nil, List.reduceReplicate, List.flatten_cons, List.flatten_nil, Nat.reduceAdd, Nat.reduceMul, Nat.reduceSub, Nat.zero_add, Nat.add_zero, List.getElem?_cons_zero, List.getElem?_cons_succ, hrow]; try rfl; done)))); (· (exact upd_upd)))) | ((with_reducible refine k_alloc (dst := some 7) ?_); ((with_reducible apply s_alloc); intro k7 hk7; (try simp only [upd_none] at hk7))) | ((with_reducible refine k_dreg ?_); refine W_dregM (pre := A61d14a) (suf := A61d14b) rfl rfl rfl rfl ?_; intro K hK) | ((with_reducible refine k_dop ?_); refine d_step (by exact Or.inl rfl) ?_) | ((with_reducible refine k_br ?_); ((refine Br_t (by omega) ?_))) | (((with_reducible apply q_eqN)); ((simp (disch := omega) only [w64, wu8, wu16, wu32, wu64, tm_nn, td_nn, fd_nn, Int.reduceAdd, Int.reduceSub, Int.reduceMul, Int.reduceDiv, Int.reduceMod, Int.reduceNeg, Int.reduceToNat, Int.toNat_natCast, Int.toNat_zero, Int.zero_add, Int.add_zero, Int.one_mul, Int.reducePow, Nat.mul_one, Nat.zero_add, Nat.add_zero, Nat.zero_mul, Nat.reduceAdd, Nat.reduceMul, Nat.reduceSub, Nat.min_eq_left, IntKind.bits, Nat.sub_zero, hrow]; try rfl; done))) | (((with_reducible apply q_eqL)); ((simp (disch := omega) only [upd_self, upd_ne, upd_upd, rep, splice, List.take_succ_cons, List.take_zero, List.drop_succ_cons, List.drop_zero, List.cons_append, List.nil_append, List.append_nil, List.length_cons, List.length_nil, List.reduceReplicate, List.flatten_cons, List.flatten_nil, Nat.reduceAdd, Nat.reduceMul, Nat.reduceSub, Nat.zero_add, Nat.add_zero, List.getElem?_cons_zero, List.getElem?_cons_succ, hrow]; try rfl; done))))
    all_goals first | (exfalso; omega) | skip
    have hc3' := upd_sub hk7 (x := [.int .i64 b1, bD b2]) _ _ hc3
    replace hk : ∀ j c, del h' k3 j = some c → upd h2 k7 [.int .i64 b1, bD b2] j = some c ∧ Fr d j := fun j c hj => ⟨upd_sub hk7 _ _ (hk j c hj).1, (hk j c hj).2⟩
    replace ho2 : SlOwn (upd h2 k7 [.int .i64 b1, bD b2]) d 2 L i := slSub ho2 (upd_sub hk7)
    have hc7 : upd h2 k7 [.int .i64 b1, bD b2] k7 = some [.int .i64 b1, bD b2] := upd_self
    clear hrow hc3 hk7
    generalize upd h2 k7 [.int .i64 b1, bD b2] = h4 at *
    repeat' (first | ((with_reducible refine k_load ?_); (((with_reducible apply s_loadP); (· rfl); (· (exact hpX))))) | ((with_reducible refine k_faddr ?_); (((with_reducible apply s_faddrP); (· rfl); (· rfl)))) | ((with_reducible refine k_build ?_); ((with_reducible apply s_build); (· rfl); (· rfl))) | ((with_reducible refine k_buildS (dst := some 45) ?_); ((with_reducible apply s_buildS); (· rfl); (· (exact ⟨rfl, by decide⟩)); (· ((simp only [fillB, rep, splice, List.reduceReplicate, List.flatten_cons, List.flatten_nil, List.cons_append, List.nil_append, List.append_nil, List.length_cons, List.length_nil, Nat.reduceAdd, Nat.reduceMul, Nat.reduceLeDiff, Nat.reduceEqDiff, eq_self, Nat.le_refl, Nat.zero_add, and_self, and_true, true_and, if_true, List.take_zero, List.take_succ_cons, List.drop_zero, List.drop_succ_cons, List.drop_nil, List.take_nil]; rfl))); intro k45 hk45; (try simp only [upd_none] at hk45))) | ((with_reducible refine k_append (dst := some 46) ?_); ((with_reducible apply s_app2); (· rfl); (· rfl); (· first | ((repeat' (first | assumption | (with_reducible apply SlOwn.upd))); done)); (· rfl); (· first | exact srcD_sl upd_self rfl); (· exact ⟨by rfl, by decide, by decide⟩); (· first | (rw [room_n]; omega)); intro ka46 ha46 hn46 hk46 hoth46)) | (with_reducible refine d_nilS ?_) | ((with_reducible refine k_dcall ?_); (((with_reducible apply d_callN); (· rfl); (· exact c1); (· (exact agX)); simp only [unow, unowC, List.map, vnw, vnC, vnC1]))) | ((with_reducible refine k_dop ?_); refine d_step (by first | exact Or.inl rfl | exact Or.inr rfl) ?_) | (with_reducible refine d_back ?_) | (((with_reducible apply q_eqO)); (exact liO)))
    all_goals first | (exfalso; omega) | skip
    have g3 := hoth46 k3 _ (upd_sub hk45 _ _ hc3') hf2
    have g4 : ka46 ≠ k3 := fun e => by rw [e, upd_sub hk45 _ _ hc3'] at hn46; cases hn46
    clear hc3'
    repeat' (first | (with_reducible first | refine then_n ?_ | refine blk_n ?_) | ((with_reducible refine s_reg ?_); intro K hK) | ((with_reducible refine k_nil ?_); (with_reducible apply s_nil hK); (· exact nmX); clear hK; clear K) | ((with_reducible refine k_mv ?_); (refine s_mv rfl ?_)) | ((with_reducible refine k_add ?_); ((with_reducible apply s_add); (· rfl); (· rfl))) | ((with_reducible refine k_store ?_); ((with_reducible apply s_store0); (· rfl); (· rfl); (· rfl); (· (exact hpX)); (· (exact ⟨rfl, by exact Nat.le_of_ble_eq_true rfl⟩)); (· ((exact liL))); (· (rfl)))) | (((with_reducible apply q_eqI)); (exact nuI)))
    all_goals first | (exfalso; omega) | skip
    refine ⟨_, _, rfl, upd_self, SlOwn.sl (by rw [upd_ne g4]; exact hk46) (by rw [List.length_append, hll]; simp [Ca.vn]; omega), Fr.sl g4, fun j c hj => ?_⟩
    obtain ⟨a1, a2⟩ := fr_step hk (upd_sub hk45) hn46 hoth46 (sz := 2) (off := 0) (n := i + 1) j c hj
    exact ⟨by rw [upd_ne (del_some hj).1]; exact a1, a2⟩
  clear hc3
  rintro e' h2 ⟨dc, h1, he, hc3, ho2, hf2, hk2⟩
  cases he
  rw [List.take_length] at ho2
  have g2 := (hk2 _ _ (del_get f6.symm g1)).1
  repeat' (first | (with_reducible first | refine W_seq ?_ | refine then_n ?_ | refine W_block ?_ | refine blk_e ?_ | refine W_exit ?_ | refine then_e ?_) | ((with_reducible refine s_reg ?_); intro K hK) | ((with_reducible refine k_nil ?_); (with_reducible apply s_nil hK); (· exact nmX); clear hK; clear K) | ((with_reducible refine k_cond ?_); (((with_reducible apply s_condF); (· rfl); (· exact nmX)))) | ((with_reducible refine k_mv ?_); (refine s_mv rfl ?_)) | ((with_reducible refine k_len ?_); ((refine s_len rfl rfl ?_))) | ((with_reducible refine k_lss ?_); (refine s_lss rfl rfl ?_)) | ((with_reducible refine k_load ?_); (((with_reducible apply s_loadP); (· rfl); (· (exact hpX))))) | ((with_reducible refine k_faddr ?_); (((with_reducible apply s_faddrP); (· rfl); (· rfl)))) | ((with_reducible refine k_br ?_); ((refine Br_f (by omega) ?_))) | (((with_reducible apply q_eqO)); (exact liO)))
  all_goals first | (exfalso; omega) | skip
  have e4 : del h2 k3 k3 = none := del_self
  have ek : ∀ j c, del h2 k3 j = some c → h2 j = some c := fun j c hj => (del_some hj).2
  refine W_for Qu.length (fun i st => ∃ d h3, st = ⟨[(2, .pt k2 0), (3, .pt k3 0), (50, rqsD Qu), (51, .int .i64 Qu.length), (52, .int .i64 i)], h3⟩ ∧ h3 k3 = some [.int .i64 depth, .int .i64 next, db, dc, d] ∧ SlOwn h3 d 4 ((Qu.take i).flatMap Rq.vn) i ∧ Fr d k3 ∧ ∀ j c, del h2 k3 j = some c → h3 j = some c ∧ Fr d j)
    ⟨_, _, rfl, hc3, SlOwn.nil, Fr.nil, fun j c hj => ⟨ek j c hj, Fr.nil⟩⟩ ?_ ?_
  · clear hc3
    rintro i e' h3 hi ⟨d, h1, he, hc3, ho3, hf3, hk⟩
    cases he
    have hrow := rqr hi
    have hqd : Qu[i].data.length ≤ 32 := by
      obtain ⟨_, _, _, a4, a5⟩ := k8 _ (List.getElem_mem hi)
      by_cases a6 : Qu[i].kind = 2
      · rw [a4 a6]; omega
      · rw [a5 a6]; omega
    have c1 := bclone_v Qu[i].data (by omega)
    have ht := take_s hi
    rw [ht, List.flatMap_append]
    have hll : ((Qu.take i).flatMap Rq.vn).length = i * 4 := by rw [fm_len Rq.vn_len, List.length_take]; congr 1; omega
    have hq16 : Qu.length ≤ 16 := by omega
    generalize Qu[i] = b at *
    obtain ⟨b1, b2, b3, b4⟩ := b
    generalize (Qu.take i).flatMap Rq.vn = L at *
    dsimp only at *
    repeat' (first | (with_reducible first | refine W_seq ?_ | refine then_n ?_ | refine W_block ?_ | refine W_skip ?_) | ((with_reducible refine s_reg ?_); intro K hK) | ((with_reducible refine k_nil ?_); (with_reducible apply s_nil hK); (· exact nmX); clear hK; clear K) | ((with_reducible refine k_cond ?_); (((with_reducible apply s_condT); (· rfl); (· exact nmX)))) | ((with_reducible refine k_lss ?_); (refine s_lss rfl rfl ?_)) | ((with_reducible refine k_iaddr ?_); (((with_reducible apply s_iaddrV); (· rfl); (· rfl); (· (omega))))) | ((with_reducible refine k_load ?_); (((with_reducible apply s_loadP); (· rfl); (· (exact hpX))))) | ((with_reducible refine k_loadA ?_); (first | ((with_reducible apply s_loadAV); (· rfl); (· (omega))) | ((with_reducible apply s_loadAP); (· rfl); (· (exact hpX)); (· (exact Nat.le_of_ble_eq_true rfl))))) | ((with_reducible refine k_store ?_); ((with_reducible apply s_store0); (· rfl); (· rfl); (· rfl); (· (exact hpX)); (· (exact ⟨rfl, by exact Nat.le_of_ble_eq_true rfl⟩)); (· (((simp (disch := omega) only [upd_self, upd_ne, upd_upd, rep, splice, List.take_succ_cons, List.take_zero, List.drop_succ_cons, List.drop_zero, List.cons_append, List.nil_append, List.append_nil, List.length_cons, List.length_nil, List.reduceReplicate, List.flatten_cons, List.flatten_nil, Nat.reduceAdd, Nat.reduceMul, Nat.reduceSub, Nat.zero_add, Nat.add_zero, List.getElem?_cons_zero, List.getElem?_cons_succ, hrow]; try rfl; done)))); (· (exact upd_upd)))) | ((with_reducible refine k_faddr ?_); (((with_reducible apply s_faddrP); (· rfl); (· rfl)))) | ((with_reducible refine k_alloc (dst := some 9) ?_); ((with_reducible apply s_alloc); intro k9 hk9; (try simp only [upd_none] at hk9))) | ((with_reducible refine k_callF ?_); (((with_reducible apply s_call1); (· rfl)))) | ((with_reducible refine k_con ?_); (((with_reducible apply con_of_pconN (c1)); (· (repeat (first | exact All2.nil | (apply All2.cons; (· first | exact rdX))))); simp only [unow, unowC, List.map, vnw, vnC, vnC1]))) | ((with_reducible refine k_br ?_); ((refine Br_t (by omega) ?_))) | (((with_reducible apply q_eqN)); ((simp (disch := omega) only [w64, wu8, wu16, wu32, wu64, tm_nn, td_nn, fd_nn, Int.reduceAdd, Int.reduceSub, Int.reduceMul, Int.reduceDiv, Int.reduceMod, Int.reduceNeg, Int.reduceToNat, Int.toNat_natCast, Int.toNat_zero, Int.zero_add, Int.add_zero, Int.one_mul, Int.reducePow, Nat.mul_one, Nat.zero_add, Nat.add_zero, Nat.zero_mul, Nat.reduceAdd, Nat.reduceMul, Nat.reduceSub, Nat.min_eq_left, IntKind.bits, Nat.sub_zero, hrow]; try rfl; done))) | ((first | (with_reducible apply q_eqL) | (with_reducible apply q_eqO)); ((simp (disch := omega) only [upd_self, upd_ne, upd_upd, rep, splice, List.take_succ_cons, List.take_zero, List.drop_succ_cons, List.drop_zero, List.cons_append, List.nil_append, List.append_nil, List.length_cons, List.length_nil, List.reduceReplicate, List.flatten_cons, List.flatten_nil, Nat.reduceAdd, Nat.reduceMul, Nat.reduceSub, Nat.zero_add, Nat.add_zero, List.getElem?_cons_zero, List.getElem?_cons_succ, hrow]; try rfl; done))))
    all_goals first | (exfalso; omega) | skip
    have hc3' := upd_sub hk9 (x := [.int .i64 b1, .int .i64 b2, .int .i64 b3, nD b4]) _ _ hc3
    replace hk : ∀ j c, del h2 k3 j = some c → upd h3 k9 [.int .i64 b1, .int .i64 b2, .int .i64 b3, nD b4] j = some c ∧ Fr d j := fun j c hj => ⟨upd_sub hk9 _ _ (hk j c hj).1, (hk j c hj).2⟩
    replace ho3 : SlOwn (upd h3 k9 [.int .i64 b1, .int .i64 b2, .int .i64 b3, nD b4]) d 4 L i := slSub ho3 (upd_sub hk9)
    have hc9 : upd h3 k9 [.int .i64 b1, .int .i64 b2, .int .i64 b3, nD b4] k9 = some [.int .i64 b1, .int .i64 b2, .int .i64 b3, nD b4] := upd_self
    clear hrow hc3
    generalize upd h3 k9 [.int .i64 b1, .int .i64 b2, .int .i64 b3, nD b4] = h5 at *
    repeat' (first | ((with_reducible refine k_faddr ?_); (((with_reducible apply s_faddrP); (· rfl); (· rfl)))) | ((with_reducible refine k_buildS (dst := some 63) ?_); ((with_reducible apply s_buildS); (· rfl); (· (exact ⟨rfl, by decide⟩)); (· ((simp only [fillB, rep, splice, List.reduceReplicate, List.flatten_cons, List.flatten_nil, List.cons_append, List.nil_append, List.append_nil, List.length_cons, List.length_nil, Nat.reduceAdd, Nat.reduceMul, Nat.reduceLeDiff, Nat.reduceEqDiff, eq_self, Nat.le_refl, Nat.zero_add, and_self, and_true, true_and, if_true, List.take_zero, List.take_succ_cons, List.drop_zero, List.drop_succ_cons, List.drop_nil, List.take_nil]; rfl))); intro k63 hk63; (try simp only [upd_none] at hk63))) | ((with_reducible refine k_append (dst := some 64) ?_); ((with_reducible apply s_app2); (· rfl); (· rfl); (· first | ((repeat' (first | assumption | (with_reducible apply SlOwn.upd))); done)); (· rfl); (· first | exact srcD_sl upd_self rfl); (· exact ⟨by rfl, by decide, by decide⟩); (· first | (rw [room_n]; omega)); intro ka64 ha64 hn64 hk64 hoth64)))
    all_goals first | (exfalso; omega) | skip
    have g3 := hoth64 k3 _ (upd_sub hk63 _ _ hc3') hf3
    have g4 : ka64 ≠ k3 := fun e => by rw [e, upd_sub hk63 _ _ hc3'] at hn64; cases hn64
    clear hc3'
    repeat' (first | (with_reducible first | refine then_n ?_ | refine blk_n ?_) | ((with_reducible refine s_reg ?_); intro K hK) | ((with_reducible refine k_nil ?_); (with_reducible apply s_nil hK); (· exact nmX); clear hK; clear K) | ((with_reducible refine k_mv ?_); (refine s_mv rfl ?_)) | ((with_reducible refine k_add ?_); ((with_reducible apply s_add); (· rfl); (· rfl))) | ((with_reducible refine k_store ?_); ((with_reducible apply s_store0); (· rfl); (· rfl); (· rfl); (· (exact hpX)); (· (exact ⟨rfl, by exact Nat.le_of_ble_eq_true rfl⟩)); (· ((exact liL))); (· (rfl)))) | (((with_reducible apply q_eqI)); (exact nuI)))
    all_goals first | (exfalso; omega) | skip
    refine ⟨_, _, rfl, upd_self, SlOwn.sl (by rw [upd_ne g4]; exact hk64) (by rw [List.length_append, hll]; simp [Rq.vn]; omega), Fr.sl g4, fun j c hj => ?_⟩
    obtain ⟨a1, a2⟩ := fr_step hk (upd_sub hk63) hn64 hoth64 (sz := 4) (off := 0) (n := i + 1) j c hj
    exact ⟨by rw [upd_ne (del_some hj).1]; exact a1, a2⟩
  clear hc3
  rintro e' h3 ⟨dq, h1, he, hc3, ho3, hf3, hk3⟩
  cases he
  rw [List.take_length] at ho3
  have g3 := (hk3 _ _ (del_get f5.symm (hk2 _ _ (del_get f5.symm (hkb _ _ f3).1)).1)).1
  repeat' (first | (with_reducible first | refine W_seq ?_ | refine then_n ?_ | refine blk_e ?_ | refine W_ret ?_ | refine W_exit ?_ | refine then_e ?_) | ((with_reducible refine s_reg ?_); intro K hK) | ((with_reducible refine k_nil ?_); (with_reducible apply s_nil hK); (· exact nmX); clear hK; clear K) | ((with_reducible refine k_cond ?_); (((with_reducible apply s_condF); (· rfl); (· exact nmX)))) | ((with_reducible refine k_lss ?_); (refine s_lss rfl rfl ?_)) | ((with_reducible refine k_loadA ?_); (((with_reducible apply s_loadAP); (· rfl); (· (exact hpX)); (· (exact Nat.le_of_ble_eq_true rfl))))) | ((with_reducible refine k_store ?_); ((with_reducible apply s_store0); (· rfl); (· rfl); (· rfl); (· (exact hpX)); (· (exact ⟨rfl, by exact Nat.le_of_ble_eq_true rfl⟩)); (· ((exact liL))); (· (rfl)))) | ((with_reducible refine k_br ?_); ((refine Br_f (by omega) ?_))) | (((with_reducible apply q_eqL)); (exact liL)))
  all_goals first | (exfalso; omega) | skip
  have x1 := (hkb _ _ f3).2
  have x2 := (hk2 _ _ (del_get f5.symm (hkb _ _ f3).1)).2
  have x3 := (hk3 _ _ (del_get f5.symm (hk2 _ _ (del_get f5.symm (hkb _ _ f3).1)).1)).2
  refine ⟨trivial, _, ?_, hQ (upd h3 k2 [.int .i64 depth, .int .i64 next, db, dc, dq]) db dc dq ⟨?_, ?_, ?_, ?_, ?_, ?_⟩⟩
  · simp [resD, resL, AM.get, upd_self, memAt, ldD]
  · refine so_mv ho fun k s o n e c hc => ?_
    have n2 : k ≠ k2 := fun e2 => x1 s o n (by rw [e, e2])
    have n3 : k ≠ k3 := fun e2 => hf s o n (by rw [e, e2])
    rw [upd_ne n2]
    exact (hk3 _ _ (del_get n3 (hk2 _ _ (del_get n3 hc)).1)).1
  · refine so_mv ho2 fun k s o n e c hc => ?_
    have n2 : k ≠ k2 := fun e2 => x2 s o n (by rw [e, e2])
    have n3 : k ≠ k3 := fun e2 => hf2 s o n (by rw [e, e2])
    rw [upd_ne n2]
    exact (hk3 _ _ (del_get n3 hc)).1
  · refine so_mv ho3 fun k s o n e c hc => ?_
    have n2 : k ≠ k2 := fun e2 => x3 s o n (by rw [e, e2])
    rw [upd_ne n2]
    exact hc
  · intro j c hj
    obtain ⟨n2, n3⟩ := f8 j c hj
    obtain ⟨a1, a2⟩ := hkb j c (f1 j c hj)
    obtain ⟨a3, a4⟩ := hk2 j c (del_get n3 a1)
    obtain ⟨a5, a6⟩ := hk3 j c (del_get n3 a3)
    exact ⟨by rw [upd_ne n2]; exact a5, a2, a4, a6⟩
  · intro k s o n e
    have n3 : k ≠ k3 := fun e2 => hf s o n (by rw [e, e2])
    obtain ⟨c, hc⟩ := so_live ho e
    obtain ⟨a3, a4⟩ := hk2 k c (del_get n3 hc)
    exact ⟨a4, (hk3 k c (del_get n3 a3)).2⟩
  · intro k s o n e
    have n3 : k ≠ k3 := fun e2 => hf2 s o n (by rw [e, e2])
    obtain ⟨c, hc⟩ := so_live ho2 e
    exact (hk3 k c (del_get n3 hc)).2
end Go.Proofs.Ythblalidmmbcoaa
end
section
/- min -/
/- slices.Insert at []api.Cached, in the model: one element, ahead of another. -/
set_option linter.unusedSimpArgs false
set_option linter.unusedVariables false
namespace Go.Proofs.Ythblalidmmbcoaa
open Go.AM Go.RowKit Go.Lib Go.Shelf
theorem infoCa : (Try.prog.info? 95).map (fun i => (i.zero, i.size, i.bytes)) = some (some (.agg #[.int .i64 0, .slice none 0 0]), 2, 32) := by kernel_rfl
theorem wp_copy_runS (w : World) {P : Program} {o : Oper} {a : Act} {K : Act → World → Prop} {Q : Exit → Act → World → Prop} (d s : Operand) (t t' : TypeId)
    (ho : o.op = .call { callee := .builtin .copy, args := #[d, s], argTypes := #[t, t'] }) (v u : Value) (hd : a.eval d = v) (hs : a.eval s = u) {v' : Value} {w' : World}
    (hr : (Builtin.copy_ #[t, t'] o.type #[v, u]).run P w = .ok v' w') (h : K (a.put o.dst v') w') : o.wp P a w K Q := by
  unfold Oper.wp execOp
  simp only [ho, resolve, invoke, builtin, Sem.run_bind, Sem.run_pure, Result.andThen_ok, List.map_toArray, List.map_cons, List.map_nil, hd, hs, hr]
  exact h
theorem wpList_copy_runS (w : World) {P : Program} {ops : Array Oper} {rest : List Oper} {o : Oper} {a : Act} {Q : Exit → Act → World → Prop} (hgd : o.guard = none) (d s : Operand) (t t' : TypeId)
    (ho : o.op = .call { callee := .builtin .copy, args := #[d, s], argTypes := #[t, t'] }) (v u : Value) (hd : a.eval d = v) (hs : a.eval s = u) {v' : Value} {w' : World}
    (hr : (Builtin.copy_ #[t, t'] o.type #[v, u]).run P w = .ok v' w') (h : wpList P ops Q rest (a.put o.dst v') w') : wpList P ops Q (o :: rest) a w :=
  wpList_plain hgd fun _ hK => wp_copy_runS w d s t t' ho v u hd hs hr (hK _ _ h)
theorem step_copy_runS {P : Program} {ops : Array Oper} {o : Oper} {a : Act} {w : World} {K : Act → World → Prop} {Q : Exit → Act → World → Prop} {E : Prop}
    (hg : o.guard = none) (d x : Operand) (dT sT : TypeId) (hop : o.op = Op.call { callee := Callee.builtin Builtin.copy, args := #[d, x], argTypes := #[dT, sT] })
    (v u : Value) (hd : a.eval d = v) (hx : a.eval x = u) {v' : Value} {w' : World} (hr : (Builtin.copy_ #[dT, sT] o.type #[v, u]).run P w = .ok v' w') (hK : K (a.put o.dst v') w') :
    if Region.wanted o (yielded ops a.tmps) = true then Oper.wp P o a w K Q else E := by
  have hw : Region.wanted o (yielded ops a.tmps) = true := by simp [Region.wanted, hg]
  rw [if_pos hw]
  unfold Oper.wp
  simp [execOp, hop, resolve, invoke, builtin, hd, hx, hr, Result.andThen]
  exact hK
theorem isSome_setCellsS (b : Nat) (vs : List Value) (o : Nat) (w : World) (h : ∀ j, j < vs.length → (w.cell? ⟨b, o + j, none⟩).isSome = true) (k : Nat) (hk : (w.cell? ⟨b, k, none⟩).isSome = true) : ((w.setCells b o vs).cell? ⟨b, k, none⟩).isSome = true := by
  by_cases hin : o ≤ k ∧ k < o + vs.length
  · have := World.cell?_setCells_in b vs o w h (k - o) (by omega)
    rw [show o + (k - o) = k by omega] at this
    rw [this]; rfl
  · rw [World.cell?_setCells_out b vs o w ⟨b, k, none⟩ (fun _ _ => by show k < o ∨ o + vs.length ≤ k; omega)]
    exact hk
theorem run_copy2 {P : Program} (w : World) (dT sT ty elem : TypeId) (b o dLen dCap : Nat) (a : Addr) (sLen sCap n : Nat) (cs : List Value)
    (hu : P.underlying dT = some (.slice elem)) (hs : (P.info? elem).map (·.size) = some 2) (hn : n = Nat.min sLen dLen) (hcl : cs.length = n * 2)
    (hsrc : ∀ j v, cs[j]? = some v → w.cell? (a.add j) = some v) (hc : ∀ j, j < cs.length → (w.cell? ⟨b, o + j, none⟩).isSome = true) (hf : ∀ j, j < cs.length → w.frozen? ⟨b, o + j, none⟩ = false) (h1 : ∀ v ∈ cs, v.oneCell' = true) :
    (Builtin.copy_ #[dT, sT] ty #[.slice (some ⟨b, o, none⟩) dLen dCap, .slice (some a) sLen sCap]).run P w = .ok (goInt n) (w.setCells b o cs) := by
  have hl := run_loadCells_list (P := P) w a cs hsrc
  rw [hcl] at hl
  have hst := run_storeCells_cells (P := P) b o cs 0 w (by simpa using hc) (by simpa using hf) h1
  cases hq : P.info? elem with
  | none => simp [hq] at hs
  | some i =>
    have hi : i.size = 2 := by simpa [hq] using hs
    simp [Builtin.copy_, run_underlying hu, Builtin.lenOf, Builtin.firstCells, sizeOf, typeInfo, hq, hi, ← hn, hl, hst]
set_option maxHeartbeats 4000000 in
set_option maxRecDepth 100000 in
theorem ins_shift (b n c i vb vc : Nat) (cs vs : List Value) (w : World) (hi : i < n) (hroom : n + 1 ≤ c) (hn : n ≤ 1000) (hvb : vb ≠ b)
    (hcl : cs.length = n * 2) (hvl : vs.length = 2)
    (hcs : ∀ j v, cs[j]? = some v → w.cell? ⟨b, j, none⟩ = some v) (hsp : ∀ j, j < (n + 1) * 2 → (w.cell? ⟨b, j, none⟩).isSome = true) (hfz : ∀ j, w.frozen? ⟨b, j, none⟩ = false)
    (hvs : ∀ j v, vs[j]? = some v → w.cell? ⟨vb, j, none⟩ = some v) (h1c : ∀ v ∈ cs, v.oneCell' = true) (h1v : ∀ v ∈ vs, v.oneCell' = true)
    (tA tB : TypeId) (kA kB : Nat) (hsa : w.shape? vb = some (tA, kA)) (hsb : w.shape? b = some (tB, kB)) (hkB : kB ≠ 0) (hfa : w.frozen? ⟨vb, 0, none⟩ = false) (hfe : w.frozen? ⟨vb, kA, none⟩ = false) :
    Calls Try.prog 75 #[.slice (some ⟨b, 0, none⟩) n c, .int .i64 i, .slice (some ⟨vb, 0, none⟩) 1 vc] w fun e w' =>
      e = .returned (.slice (some ⟨b, 0, none⟩) (n + 1) c) ∧ w' = (w.drew.setCells b ((i + 1) * 2) (cs.drop (i * 2))).setCells b (i * 2) vs := by
  have mix := mixed
  have u3 := run_underlying (P := Try.prog) Try.underlying3
  have u4 := run_underlying (P := Try.prog) Try.underlying4
  have u48 := run_underlying (P := Try.prog) Try.underlying48
  obtain ⟨i0, hi0, hz0, hzs, hzb⟩ := info_parts infoCa
  have hti : ∀ w, (typeInfo 95).run Try.prog w = .ok i0 w := fun w => by simp [typeInfo, hi0]
  have z95 : ∀ w, (Go.sizeOf 95).run Try.prog w = .ok 2 w := fun w => by simp [sizeOf, hti, hzs]
  have hz2 : ¬ ((i : Int) = (n : Int)) := by omega
  have hsz : (Try.prog.info? 95).map (·.size) = some 2 := by rw [hi0]; simp [hzs]
  have hov : ∀ lb cb, (callFunc 82 #[.slice (some ⟨vb, 0, none⟩) 1 vc, .slice (some ⟨b, (i + 1) * 2, none⟩) lb cb]).run Try.prog w = .ok (.value (.bool false)) w := fun lb cb => by
    rw [run_callFunc_extern Try.func82 (by kernel_rfl) (by kernel_rfl) (by kernel_rfl) (e := Extern.SlicesOverlaps.overlaps #[48, 48] #[4]) (by kernel_rfl),
      Lib.run_overlaps_apart w 48 4 95 Try.underlying48 2 z95 ⟨vb, 0, none⟩ ⟨b, (i + 1) * 2, none⟩ 1 vc lb cb hvb tA tB kA kB hsa hsb hkB hfa hfe]
    rfl
  have hdl : (cs.drop (i * 2)).length = (n - i) * 2 := by rw [List.length_drop, hcl]; omega
  have hw1 : IntKind.i64.wrap ((i : Int) + 1) = (i : Int) + 1 := by rw [IntKind.wrap_i64]; omega
  have hw2 : IntKind.i64.wrap ((n : Int) + 1) = (n : Int) + 1 := by rw [IntKind.wrap_i64]; omega
  have hb1 : (0 : Int) ≤ (i : Int) + 1 := by omega
  have hin : i ≤ n := by omega
  have htn : ((i : Int) + 1).toNat = i + 1 := by omega
  have hb2 : ¬ (c = i + 1) := by omega
  have hb3 : (i : Int) ≤ (n : Int) + 1 := by omega
  have hb4 : ¬ (c = i) := by omega
  have hcp1 : ∀ ty dc sc, (Builtin.copy_ #[48, 48] ty #[.slice (some ⟨b, (i + 1) * 2, none⟩) (n - i) dc, .slice (some ⟨b, i * 2, none⟩) (n + 1 - i) sc]).run Try.prog w.drew = .ok (goInt (n - i : Nat)) (w.drew.setCells b ((i + 1) * 2) (cs.drop (i * 2))) := fun ty dc sc =>
    run_copy2 w.drew _ _ ty 95 b ((i + 1) * 2) (n - i) dc ⟨b, i * 2, none⟩ (n + 1 - i) sc (n - i) (cs.drop (i * 2)) Try.underlying48 hsz (by simp only [Nat.min_def]; split <;> omega) hdl
      (fun j v hj => by rw [Addr.add_lit]; exact hcs (i * 2 + j) v (by rwa [List.getElem?_drop] at hj))
      (fun j hj => by rw [hdl] at hj; exact hsp ((i + 1) * 2 + j) (by omega)) (fun j hj => hfz _) (fun v hv => h1c v (List.mem_of_mem_drop hv))
  obtain ⟨W1, hW1⟩ : ∃ W1, W1 = w.drew.setCells b ((i + 1) * 2) (cs.drop (i * 2)) := ⟨_, rfl⟩
  have hsp1 : ∀ k, k < (n + 1) * 2 → (W1.cell? ⟨b, k, none⟩).isSome = true := fun k hk => by
    rw [hW1]
    exact isSome_setCellsS b _ _ _ (fun j hj => by rw [hdl] at hj; exact hsp ((i + 1) * 2 + j) (by omega)) _ (hsp k hk)
  have hcp2 : ∀ (W : World), (∀ x, W.cell? x = W1.cell? x) → (∀ x, W.frozen? x = W1.frozen? x) → ∀ ty dc, (Builtin.copy_ #[48, 48] ty #[.slice (some ⟨b, i * 2, none⟩) (n + 1 - i) dc, .slice (some ⟨vb, 0, none⟩) 1 vc]).run Try.prog W = .ok (goInt (1 : Nat)) (W.setCells b (i * 2) vs) := fun W hWc hWf ty dc =>
    run_copy2 W _ _ ty 95 b (i * 2) (n + 1 - i) dc ⟨vb, 0, none⟩ 1 vc 1 vs Try.underlying48 hsz (by simp only [Nat.min_def]; split <;> omega) hvl
      (fun j v hj => by
        rw [Addr.add_lit, hWc, hW1, World.cell?_setCells_out b _ _ _ _ (fun h _ => absurd h hvb), Nat.zero_add]
        exact hvs j v hj)
      (fun j hj => by rw [hWc]; exact hsp1 _ (by omega)) (fun j hj => by rw [hWf, hW1, World.frozen?_setCells]; exact hfz _) h1v
  rw [← hW1] at hcp1
  refine calls_of_wp Try.func75 rfl ?_
  simp only [Try.ntmps75, List.size_toArray, List.length_cons, List.length_nil, Nat.reduceAdd, Nat.reduceSub, Array.replicate_succ, Array.replicate_zero, List.push_toArray, List.append_toArray, List.nil_append, List.cons_append]
  go_wp2_with (simp only [hov])
  go_region_law_o (refine step_copy_runS rfl _ _ 48 48 rfl _ _ (by simp [Act.eval, Act.put]) (by simp [Act.eval, Act.put]) (hcp1 _ _ _) ?_)
  go_wp2_with (at_builtin; refine wpList_copy_runS _ rfl _ _ 48 48 rfl _ _ rfl rfl (hcp2 _ (fun _ => rfl) (fun _ => rfl) _ _) ?_)
  go_ret
  first | exact ⟨rfl, rfl⟩ | exact ⟨rfl, by rw [hW1]⟩
end Go.Proofs.Ythblalidmmbcoaa
end
section
/- min -/
/- slices.Insert at []api.Cached, in the model: no room. -/
set_option linter.unusedSimpArgs false
set_option linter.unusedVariables false
namespace Go.Proofs.Ythblalidmmbcoaa
open Go.AM Go.RowKit Go.Lib Go.Shelf
abbrev zCa : Value := .agg #[.int .i64 0, .slice none 0 0]
theorem zCa_size (n : Nat) : (Builtin.zeroCells zCa.cells n).size = n * 2 := by
  rw [size_zeroCells]; rfl
set_option maxHeartbeats 4000000 in
set_option maxRecDepth 100000 in
theorem ins_grow (b n c i vb vc : Nat) (cs vs : List Value) (w : World) (hi : i < n) (hnc : n ≤ c) (hroom : c < n + 1) (hn : n ≤ 1000)
    (hcl : cs.length = n * 2) (hvl : vs.length = 2)
    (hcs : ∀ j v, cs[j]? = some v → w.cell? ⟨b, j, none⟩ = some v)
    (hvs : ∀ j v, vs[j]? = some v → w.cell? ⟨vb, j, none⟩ = some v) (h1c : ∀ v ∈ cs, v.oneCell' = true) (h1v : ∀ v ∈ vs, v.oneCell' = true) :
    Calls Try.prog 75 #[.slice (some ⟨b, 0, none⟩) n c, .int .i64 i, .slice (some ⟨vb, 0, none⟩) 1 vc] w fun e w' =>
      e = .returned (.slice (some ⟨w.heap.size, 0, none⟩) (n + 1) (grownCap w (n + 1) c 95)) ∧
      w' = (((w.alloc (.cells ((cs.take (i * 2)).toArray ++ Builtin.zeroCells zCa.cells (n + 1 - i) ++ Builtin.zeroCells zCa.cells (grownCap w (n + 1) c 95 - (n + 1))) 95)).drew.setCells w.heap.size (i * 2) vs).drew).setCells w.heap.size ((i + 1) * 2) (cs.drop (i * 2)) := by
  have mix := mixed
  have u3 := run_underlying (P := Try.prog) Try.underlying3
  have u4 := run_underlying (P := Try.prog) Try.underlying4
  have u48 := run_underlying (P := Try.prog) Try.underlying48
  obtain ⟨i0, hi0, hz0, hzs, hzb⟩ := info_parts infoCa
  have hti : ∀ w, (typeInfo 95).run Try.prog w = .ok i0 w := fun w => by simp [typeInfo, hi0]
  have z95 : ∀ w, (Go.sizeOf 95).run Try.prog w = .ok 2 w := fun w => by simp [sizeOf, hti, hzs]
  have hz2 : ¬ ((i : Int) = (n : Int)) := by omega
  have hz3 : (c : Int) < (n : Int) + 1 := by omega
  have hsz : (Try.prog.info? 95).map (·.size) = some 2 := by rw [hi0]; simp [hzs]
  have hbw : b < w.heap.size := block_lt_of_cell (hcs 0 _ (List.getElem?_eq_getElem (by omega)))
  have hvw : vb < w.heap.size := block_lt_of_cell (hvs 0 _ (List.getElem?_eq_getElem (by omega)))
  have hkk : (n : Int) + 1 - (i : Int) = ((n + 1 - i : Nat) : Int) := by omega
  have hik : i + (n + 1 - i) = n + 1 := by omega
  have hold : (Builtin.firstCells i0.size i (.slice (some ⟨b, 0, none⟩) i c)).run Try.prog w.drew = .ok (cs.take (i * 2)).toArray w.drew := by
    rw [hzs]
    exact run_firstCells_some w.drew 2 i ⟨b, 0, none⟩ i c (cs.take (i * 2)) (by rw [List.length_take]; omega) (fun j v hj => by
      rw [Addr.add_lit, Nat.zero_add]
      rw [List.getElem?_take] at hj
      split at hj
      · exact hcs j v hj
      · cases hj)
  have hrz : ∀ ty, (Builtin.append_ #[48, 3] ty #[.slice (some ⟨b, 0, none⟩) i c, .int .i64 ((n : Int) + 1 - (i : Int))]).run Try.prog w =
      .ok (.slice (some ⟨w.heap.size, 0, none⟩) (n + 1) (grownCap w (n + 1) c 95)) (w.drew.alloc (.cells ((cs.take (i * 2)).toArray ++ Builtin.zeroCells zCa.cells (n + 1 - i) ++ Builtin.zeroCells zCa.cells (grownCap w (n + 1) c 95 - (n + 1))) 95)) := fun ty => by
    have h := Lib.run_append_grow_zeros w 48 3 ty 95 i0 zCa .i64 .i64 Try.underlying48 Try.underlying3 hi0 hz0 (some ⟨b, 0, none⟩) i c (cs.take (i * 2)) hold (n + 1 - i) (by omega) (by omega) (by omega) (by omega) (by rw [hzb]; omega) (by rw [hzb, hik]; exact growslice_fits (by omega) (by omega))
    rw [hik] at h
    rw [hkk]
    exact h
  obtain ⟨G, hG⟩ : ∃ G, G = grownCap w (n + 1) c 95 := ⟨_, rfl⟩
  obtain ⟨ROW, hROW⟩ : ∃ ROW : Array Value, ROW = (cs.take (i * 2)).toArray ++ Builtin.zeroCells zCa.cells (n + 1 - i) ++ Builtin.zeroCells zCa.cells (G - (n + 1)) := ⟨_, rfl⟩
  rw [← hG] at hrz ⊢
  rw [← hROW] at hrz ⊢
  have hRl : (n + 1) * 2 ≤ ROW.size := by
    rw [hROW, Array.size_append, Array.size_append, zCa_size, zCa_size]
    simp
    omega
  obtain ⟨W1, hW1⟩ : ∃ W1, W1 = w.drew.alloc (.cells ROW 95) := ⟨_, rfl⟩
  rw [← hW1] at hrz
  have hN : ∀ j, j < (n + 1) * 2 → (W1.cell? ⟨w.heap.size, j, none⟩).isSome = true := fun j hj => by
    rw [hW1, World.cell?_alloc_at (w := w.drew) ROW _ w.heap.size j rfl, Array.getElem?_eq_getElem (by omega)]; rfl
  have hNf : ∀ j, W1.frozen? ⟨w.heap.size, j, none⟩ = false := fun j => by rw [hW1]; exact World.frozen?_alloc_at (w := w.drew) ROW _ w.heap.size j rfl
  have hOb : ∀ j v, w.cell? ⟨b, j, none⟩ = some v → W1.cell? ⟨b, j, none⟩ = some v := fun j v h => by rw [hW1, World.cell?_alloc_past (w := w.drew) _ b j hbw]; exact h
  have hOv : ∀ j v, w.cell? ⟨vb, j, none⟩ = some v → W1.cell? ⟨vb, j, none⟩ = some v := fun j v h => by rw [hW1, World.cell?_alloc_past (w := w.drew) _ vb j hvw]; exact h
  have hcpA : ∀ (W : World), (∀ x, W.cell? x = W1.cell? x) → (∀ x, W.frozen? x = W1.frozen? x) → ∀ ty dc, (Builtin.copy_ #[48, 48] ty #[.slice (some ⟨w.heap.size, i * 2, none⟩) (n + 1 - i) dc, .slice (some ⟨vb, 0, none⟩) 1 vc]).run Try.prog W = .ok (goInt (1 : Nat)) (W.setCells w.heap.size (i * 2) vs) := fun W hWc hWf ty dc =>
    run_copy2 W _ _ ty 95 w.heap.size (i * 2) (n + 1 - i) dc ⟨vb, 0, none⟩ 1 vc 1 vs Try.underlying48 hsz (by simp only [Nat.min_def]; split <;> omega) hvl
      (fun j v hj => by rw [Addr.add_lit, hWc, Nat.zero_add]; exact hOv _ v (hvs j v hj))
      (fun j hj => by rw [hWc]; exact hN _ (by omega)) (fun j hj => by rw [hWf]; exact hNf _) h1v
  have hGn : n + 1 ≤ G := by rw [hG]; exact grownCap_ge w _ _ _
  have hG63 : G ≤ 9223372036854775807 := by
    have := grownCap_le_maxLen w (n + 1) c 95 (by unfold maxLen; omega)
    rw [← hG] at this
    unfold maxLen at this
    omega
  have hGi : ¬ (G = i) := by omega
  have hGim : ¬ (G = i + 1) := by omega
  have hci : ¬ (c = i) := by omega
  have hbN : b ≠ w.heap.size := by omega
  have hdl : (cs.drop (i * 2)).length = (n - i) * 2 := by rw [List.length_drop, hcl]; omega
  have hcpB : ∀ (W : World), (∀ x, W.cell? x = (W1.setCells w.heap.size (i * 2) vs).cell? x) → (∀ x, W.frozen? x = (W1.setCells w.heap.size (i * 2) vs).frozen? x) → ∀ ty dc sc, (Builtin.copy_ #[48, 48] ty #[.slice (some ⟨w.heap.size, (i + 1) * 2, none⟩) (n - i) dc, .slice (some ⟨b, i * 2, none⟩) (n - i) sc]).run Try.prog W = .ok (goInt (n - i : Nat)) (W.setCells w.heap.size ((i + 1) * 2) (cs.drop (i * 2))) := fun W hWc hWf ty dc sc =>
    run_copy2 W _ _ ty 95 w.heap.size ((i + 1) * 2) (n - i) dc ⟨b, i * 2, none⟩ (n - i) sc (n - i) (cs.drop (i * 2)) Try.underlying48 hsz (by simp only [Nat.min_def]; split <;> omega) hdl
      (fun j v hj => by
        rw [Addr.add_lit, hWc, World.cell?_setCells_out _ _ _ _ _ (fun h _ => absurd h hbN)]
        exact hOb _ v (hcs (i * 2 + j) v (by rwa [List.getElem?_drop] at hj)))
      (fun j hj => by rw [hWc]; rw [hdl] at hj; exact isSome_setCellsS _ _ _ _ (fun t ht => hN _ (by omega)) _ (hN ((i + 1) * 2 + j) (by omega)))
      (fun j hj => by rw [hWf, World.frozen?_setCells]; exact hNf _) (fun v hv => h1c v (List.mem_of_mem_drop hv))
  subst hW1
  have hE1 : ∀ x, ((w.alloc (.cells ROW 95)).drew).cell? x = (w.drew.alloc (.cells ROW 95)).cell? x := fun x => rfl
  have hE2 : ∀ x, ((w.alloc (.cells ROW 95)).drew).frozen? x = (w.drew.alloc (.cells ROW 95)).frozen? x := fun x => rfl
  have hF1 : ∀ x, (((w.alloc (.cells ROW 95)).drew.setCells w.heap.size (i * 2) vs).drew).cell? x = ((w.drew.alloc (.cells ROW 95)).setCells w.heap.size (i * 2) vs).cell? x := fun x => rfl
  have hF2 : ∀ x, (((w.alloc (.cells ROW 95)).drew.setCells w.heap.size (i * 2) vs).drew).frozen? x = ((w.drew.alloc (.cells ROW 95)).setCells w.heap.size (i * 2) vs).frozen? x := fun x => rfl
  have hw1 : IntKind.i64.wrap ((i : Int) + 1) = (i : Int) + 1 := by rw [IntKind.wrap_i64]; omega
  have hw2 : IntKind.i64.wrap ((n : Int) + 1) = (n : Int) + 1 := by rw [IntKind.wrap_i64]; omega
  have hb1 : (0 : Int) ≤ (i : Int) + 1 := by omega
  have hin : i ≤ n := by omega
  have htn : ((i : Int) + 1).toNat = i + 1 := by omega
  have hb3 : (i : Int) ≤ (n : Int) := by omega
  clear hkk hik hold hROW hG hRl
  refine calls_of_wp Try.func75 rfl ?_
  simp only [Try.ntmps75, List.size_toArray, List.length_cons, List.length_nil, Nat.reduceAdd, Nat.reduceSub, Array.replicate_succ, Array.replicate_zero, List.push_toArray, List.append_toArray, List.nil_append, List.cons_append]
  go_wp2_with (first
    | (at_builtin; refine Lib.wpList_append_run _ rfl _ _ _ _ rfl _ _ rfl rfl _ _ (hrz _) ?_)
    | (at_builtin; refine wpList_copy_runS _ rfl _ _ 48 48 rfl _ _ rfl rfl (hcpA _ hE1 hE2 _ _) ?_)
    | (at_builtin; refine wpList_copy_runS _ rfl _ _ 48 48 rfl _ _ rfl rfl (hcpB _ (fun _ => rfl) (fun _ => rfl) _ _ _) ?_))
  go_region_law_o (refine step_copy_runS rfl _ _ 48 48 rfl (.slice (some ⟨w.heap.size, (i + 1) * 2, none⟩) (n - i) (G - (i + 1))) (.slice (some ⟨b, i * 2, none⟩) (n - i) (c - i)) (by simp [Act.eval, Act.put]) (by simp [Act.eval, Act.put]) (hcpB _ hF1 hF2 3 (G - (i + 1)) (c - i)) ?_)
  go_wp2
  go_ret
  exact ⟨rfl, rfl⟩
end Go.Proofs.Ythblalidmmbcoaa
end
