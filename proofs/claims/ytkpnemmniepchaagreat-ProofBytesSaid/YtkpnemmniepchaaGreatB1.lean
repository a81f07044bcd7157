/-
  The function on abstract values, and what its arguments read as.
-/
import Derived.Test.YtkpnemmniepchaaGreatZ1
import Derived.Test.YtkpnemmniepchaaGreatM2
import Derived.ProofKit
import Derived.SizedLaws
/-
  ProofBytes: the law holds.
-/
namespace Go.AW
open Go Go.RowKit Go.Proofs
set_option linter.unusedVariables false
set_option linter.unusedSimpArgs false
set_option maxRecDepth 100000

theorem call5 {st : List AO} : ACall Tryz.prog 5 [] st (fun x s => x = .sc (.bool true) ∧ s = st) := by
  obtain ⟨h1, h2⟩ := k82 e82 (List.mem_singleton.2 rfl)
  exact ACall.frame h2 h1

theorem flat_ge {α : Type} {f : α → List UInt8} : ∀ {L : List α}, (∀ x ∈ L, 1 ≤ (f x).length) → L.length ≤ (L.flatMap f).length
  | [], _ => by simp
  | x :: L, h => by
    have k1 := h x (by simp)
    have k2 := flat_ge (L := L) (fun y hy => h y (by simp [hy]))
    simp only [List.flatMap_cons, List.length_append, List.length_cons]; omega
theorem putEs_ge {c : List Nd} : c.length ≤ (putEs c).length := by
  have := flat_ge (f := putEv) (L := c) (fun x _ => by
    have h : 1 ≤ (putU 0).length := by have := putU_ne (n := 0); cases hp : putU 0 with | nil => exact absurd hp this | cons _ _ => simp
    simp only [putEv, List.length_append]; omega)
  simp only [putEs, List.length_append]; omega

theorem nd_cells' {c : List Ev} : ∀ x ∈ c.map (fun e => ndA e.n), x.cells.length = 5 := by
  intro x hx; obtain ⟨n, _, rfl⟩ := List.mem_map.1 hx; rfl

set_option maxHeartbeats 4000000 in
theorem call4 {st : List AO} {es : List Ev} {b : List UInt8} : ACall Tryz.prog 4 [.sl false (es.map evA), bA b] st (fun x s => x = .sc (.bool true) ∧ s = st) := by
  refine acall_t t4 (by simp) ?_
  have yes : ∀ (E : Env) (st' : List AO), (∃ ext, st' = st ++ ext) → FinQ [.tmp 4] st (fun x s => x = .sc (.bool true) ∧ s = st) .ret ((4, .sc (.bool true)) :: E) [] st' := by
    intro E st' hp
    refine fin_tmp (.inr rfl) (fin_pre hp ⟨?_, rfl⟩)
    simp only [g_cons, if_true, frz_sc]
  simp only [c4, k_seq, k_reg, o_nil, o_mov, o_call, p_some, a_fun, a_bool, wp_seq, wp_reg, q_thenN, fn_call, argE, List.map_nil, Nat.zero_add]
  refine call5.mono ?_
  rintro x st ⟨rfl, rfl⟩
  simp only [k_call, k_seq, k_reg, k_some, o_nil, Bool.not_true, o_un, g_cons, p_some, a_tmp, q_thenN, evQ, Nat.reduceEqDiff, Nat.succ_ne_zero, if_false, if_true]
  rw [wp_cond (v := false) (by simp only [g_cons, a_tmp, Nat.reduceEqDiff, Nat.succ_ne_zero, if_false, if_true])]
  refine ⟨(fun h => by cases h), fun _ => ?_⟩
  simp only [c4r0, k_seq, o_mov, o_call, g_cons, p_some, a_tmp, a_fun, wp_seq, wp_reg, wp_skip, q_thenN, fn_call, List.map_cons, List.map_nil, Nat.reduceEqDiff, Nat.succ_ne_zero, if_false, if_true]
  refine call12.mono ?_
  rintro x st ⟨rfl, fb, rfl, hfine⟩
  cases fb with
  | false =>
    simp only [k_call, k_seq, k_reg, k_some, k_tf, o_nil, o_grdM, Bool.not_false, o_mov, o_pick, o_un, g_cons, p_some, a_tmp, a_bool, q_thenN, evQ, Nat.reduceEqDiff, Nat.succ_ne_zero, if_false, if_true]
    rw [wp_cond (v := true) (by simp only [g_cons, a_tmp, Nat.reduceEqDiff, Nat.succ_ne_zero, if_false, if_true])]
    refine ⟨fun _ => ?_, (fun h => by cases h)⟩
    simp only [k_seq, k_reg, o_nil, o_mov, p_some, a_bool, wp_seq, wp_reg, wp_ret, q_thenN, q_thenR]
    exact yes _ _ ⟨[], by simp⟩
  | true =>
  obtain ⟨hlen, hfine⟩ := hfine rfl
  simp only [bA, List.length_map, k_call, k_seq, k_reg, k_some, k_ff, o_nil, o_grdM, Bool.not_true, o_mov, o_pick, o_bin, o_un, o_len, g_cons, p_some, a_tmp, a_bool, a_i64_400, q_thenN, evQ, binA, binInts, binI, slen, lenA, Nat.reduceEqDiff, Nat.succ_ne_zero, Bool.false_eq_true, if_false, if_true]
  intro _
  rw [wp_cond (v := decide ((b.length : Int) > 400)) (by simp only [g_cons, a_tmp, Nat.reduceEqDiff, Nat.succ_ne_zero, if_false, if_true])]
  refine ⟨fun h => ?_, fun h => ?_⟩
  · simp only [k_seq, k_reg, o_nil, o_mov, p_some, a_bool, wp_seq, wp_reg, wp_ret, q_thenN, q_thenR]
    exact yes _ _ ⟨[], by simp⟩
  have hb : b.length ≤ 400 := by have : ¬ (b.length : Int) > 400 := by simpa using h
                                 omega
  simp only [k_seq, k_reg, o_nil, o_mov, p_some, a_nil, a_i64_0, wp_seq, wp_reg, wp_skip, wp_block, wp_loop, q_thenN]
  refine loop_rule (fun (k : Nat) E st' => k ≤ es.length ∧ ∃ v ext, st' = st ++ ext ∧ E = [(0, .sl false (es.map evA)), (1, .sl false (b.map u8A)), (5, v), (6, .sc (.int .i64 (k : Nat)))] ∧ IsBuf st.length 50 5 (st ++ ext) v ((es.take k).map (fun e => ndA e.n))) (fun k => es.length - k)
    0 [(0, .sl false (es.map evA)), (1, .sl false (b.map u8A)), (5, .sl true []), (6, .sc (.int .i64 0))] (by simp only [SubE, g_cons, Nat.reduceEqDiff, Nat.succ_ne_zero, and_true, if_false, if_true]) ⟨Nat.zero_le _, _, [], by simp, rfl, .inl (by simp)⟩ ?_
  rintro k E st' ⟨hk, v, ext, rfl, rfl, hv⟩
  simp only [c4l4, c4r1, List.length_map, k_call, k_seq, k_reg, k_some, o_nil, o_mov, o_bin, o_len, g_cons, p_some, a_tmp, wp_seq, wp_reg, q_thenN, binA, binInts, binI, slen, lenA, Nat.reduceEqDiff, Nat.succ_ne_zero, if_false, if_true]
  intro _
  rw [wp_cond (v := decide (k < es.length)) (by simp only [dec_lt, g_cons, a_tmp, Nat.reduceEqDiff, Nat.succ_ne_zero, if_false, if_true])]
  refine ⟨fun h => ?_, fun h => ?_⟩
  · have hk1 : k < es.length := by simpa using h
    obtain ⟨e, ht, hmem⟩ := get_lt hk1
    have ht' : (es.map evA)[k]? = some (evA e) := get_map ht
    simp only [evA] at ht'
    have hN : ∀ s : List AO, loadA s true 5 (.ep (.sl false (es.map evA)) 7 k 2) = some (.agg [.sc (.int .i64 e.n.id), .sc (.int .i64 e.n.rule), .sc (.int .i64 e.n.p), .sc (.int .i64 e.n.q), .sl false (e.n.c.map liA)]) := fun s => by rw [ld_sub (sz := 7) ht' rfl (by omega)]; rfl
    simp only [c4r2, List.length_map, hk1, hN, k_call, k_seq, k_some, o_mov, o_load, o_faddr, o_iaddr, g_cons, p_some, a_tmp, wp_seq, wp_reg, wp_skip, wp_block, q_thenN, evQ, slen, natA_nat, Nat.reduceEqDiff, Nat.succ_ne_zero, Nat.zero_add, if_false, if_true]
    rw [o_mksl (by intro y hy; simp only [List.mem_singleton] at hy; subst hy; simp only [g_cons, a_tmp, Nat.reduceEqDiff, Nat.succ_ne_zero, if_false, if_true]; rfl)]
    simp only [o_app, g_cons, p_some, a_tmp, List.map_cons, List.map_nil, Nat.reduceEqDiff, Nat.succ_ne_zero, if_false, if_true]
    refine ⟨(by intro x hx; simp only [List.mem_singleton] at hx; subst hx; exact ⟨rfl, rfl⟩), ?_⟩
    refine app_buf (cur := (es.take k).map (fun e => ndA e.n)) (zs := [ndA e.n]) ?_ ?_ ?_ ?_ ?_ ?_ ?_
    · simpa only [k_call, k_seq, k_reg, k_some, k_box, k_tt, k_ff, k_tf, k_ft, k_un, o_nil, o_grdM, Bool.true_eq_false, Bool.not_true, Bool.not_false, o_mov, o_pick, o_build, o_load, o_nilck, o_bin, o_un, o_cvi, o_mkfn, o_faddr, o_slc, o_ext, o_iaddr, o_len, o_alloc, o_box, o_call, o_app, g_cons, p_some, p_none, a_tmp, a_fun, a_bool, a_nil, a_i64_0, a_i64_1, a_i64_2, a_i64_3, a_i64_5, a_i64_7, a_i64_8, a_i64_9, a_i64_10, a_i64_20, a_i64_60, a_i64_256, a_i64_400, a_i64_1000, a_i64_m1000, a_i64_m1, a_i64_2147483648, a_i64_m2147483648, a_i64_2147483647, a_u8_0, a_u8_1, a_u8_7, a_u8_10, a_u8_128, a_u64_0, a_u64_1, a_u64_7, a_u64_63, a_u64_128, a_u64_1048576, a_u64_4096, wp_seq, wp_reg, wp_skip, wp_ret, wp_exit, wp_block, wp_loop, q_thenN, q_thenR, q_thenE, q_blkN, q_blkR, q_blkE, q_nxtN, q_nxtR, q_nxtE, fn_call, evQ, binA, binInts, binI, slen, lenA, natA_nat, natA_0, argE, List.map_cons, List.map_nil, Nat.reduceEqDiff, Nat.reduceAdd, reduceIte, Option.map_some, Option.map_none, Option.isSome_some, Option.isSome_none, Nat.succ_ne_zero, ld_ref, get_last, get_last2, get_mid, get_mid1, get_mid2, set_last, set_last2, set_mid, AV.cells?, List.length_cons, List.length_nil, Nat.zero_add, partA, List.getElem?_cons_zero, List.getElem?_cons_succ, List.drop_zero, List.drop_succ_cons, List.take_succ_cons, List.take_zero, putAt, List.nil_append, List.cons_append, List.drop_nil, List.append_nil, Nat.reduceLeDiff, Nat.le_refl, true_and, and_true, Bool.false_eq_true, if_false, if_true] using hv
    · simp only [g_cons, a_tmp, Nat.reduceEqDiff, Nat.succ_ne_zero, if_false, if_true]; rfl
    · exact (by intro x hx; simp only [List.mem_singleton] at hx; subst hx; exact ⟨rfl, rfl⟩)
    · exact nd_cells'
    · simp only [List.length_map, List.length_take, List.length_singleton]; omega
    · simp only [List.length_map, List.length_take, List.length_singleton]; omega
    intro v' ext' hv'
    simp only [c4r3, wrap_succ (show k < 9223372036854775807 by omega), k_call, k_seq, k_reg, k_some, o_nil, o_mov, o_bin, g_cons, p_some, a_tmp, a_i64_1, wp_reg, q_thenN, q_blkN, q_nxtN, binA, binInts, binI, Nat.reduceEqDiff, Nat.succ_ne_zero, true_and, if_false, if_true]
    refine ⟨_, (?_ : SubE [(0, _), (1, _), (5, _), (6, _)] _), k + 1, by omega, by omega, v', ext', rfl, rfl, ?_⟩
    · simp only [SubE, g_cons, Nat.reduceEqDiff, Nat.succ_ne_zero, and_true, if_false, if_true]
    · rw [take_succ ht, List.map_append]; exact hv'
  have hk0 : k = es.length := by have : ¬ k < es.length := by simpa using h
                                 omega
  subst hk0
  rw [List.take_length] at hv
  have hmm : es.map (fun e => ndA e.n) = (es.map Ev.n).map ndA := by rw [List.map_map]; rfl
  rw [hmm] at hv
  have hc : ∀ n ∈ es.map Ev.n, n.fine := by
    intro n hn
    obtain ⟨e, he, rfl⟩ := List.mem_map.1 hn
    obtain ⟨g1, g2, g3, g4, g5, g6, g7⟩ := hfine e he
    exact ⟨g2, g3, g4, g5, g6, g7⟩
  have hcl : (es.map Ev.n).length ≤ 60 := by simpa using hlen
  generalize es.map Ev.n = c at hc hcl hv
  simp only [c4r5, k_seq, o_mov, o_call, g_cons, p_some, a_tmp, a_fun, wp_seq, wp_reg, wp_exit, q_thenN, q_thenE, q_blkE, q_nxtE, fn_call, List.map_cons, List.map_nil, Nat.reduceEqDiff, Nat.succ_ne_zero, if_false, if_true]
  refine call_buf [] [] hv (fun x hx => by cases hx) (fun x hx => by cases hx) (fun ext' => ?_)
  refine (call13 (fun n hn => ⟨(hc n hn).sm, by have := (hc n hn).2.2.2.2.1; unfold Nd.big; omega⟩) (by omega)).mono ?_
  rintro x s ⟨rfl, rfl⟩
  simp only [c4r6, k_call, k_seq, k_reg, o_nil, o_mov, o_call, g_cons, p_some, a_tmp, a_fun, wp_seq, wp_reg, q_thenN, fn_call, List.map_cons, List.map_nil, Nat.reduceEqDiff, Nat.succ_ne_zero, if_false, if_true]
  have hput := putEs_len hc hcl
  refine (call14 (fun n hn => (hc n hn).sm) (by omega) (by omega)).mono ?_
  rintro x s ⟨rfl, rfl⟩
  simp only [c4r7, k_call, k_seq, k_reg, o_nil, o_mov, o_call, g_cons, p_some, a_tmp, a_fun, wp_seq, wp_reg, q_thenN, fn_call, List.map_cons, List.map_nil, Nat.reduceEqDiff, Nat.succ_ne_zero, if_false, if_true]
  refine call15.mono ?_
  rintro x s ⟨rfl, rfl⟩
  rw [proofR_put hc hcl]
  have w0 : IntKind.wrap .i64 0 = 0 := rfl
  simp only [ndsV, c4r8, w0, fillA, bne_self_eq_false, List.length_map, List.getElem?_cons_zero, List.getElem?_cons_succ, k_call, k_seq, k_reg, k_some, k_ff, o_nil, o_grdM, o_mov, o_pick, o_build, o_bin, o_cvi, o_ext, o_len, o_call, g_cons, p_some, a_tmp, a_fun, a_bool, a_i64_0, wp_seq, wp_reg, q_thenN, fn_call, evQ, binA, binInts, binI, slen, lenA, List.map_cons, List.map_nil, Nat.reduceEqDiff, Nat.reduceAdd, Option.map_some, Nat.succ_ne_zero, AV.cells?, List.length_cons, List.length_nil, Nat.zero_add, List.getElem?_cons_zero, List.getElem?_cons_succ, List.drop_zero, List.drop_succ_cons, List.take_succ_cons, List.take_zero, List.nil_append, List.cons_append, Nat.reduceLeDiff, and_true, Bool.false_eq_true, if_false, if_true]
  intro _ _
  refine (call16 (L := c) (a := true) (b := true) (c := true) (d := true)).mono ?_
  rintro x s ⟨rfl, rfl⟩
  simp only [k_call, k_seq, k_reg, k_some, k_ff, o_nil, o_grdM, Bool.not_true, o_pick, o_un, g_cons, p_some, a_tmp, a_bool, q_thenN, evQ, Nat.reduceEqDiff, Nat.succ_ne_zero, Bool.false_eq_true, if_false, if_true]
  rw [wp_cond (v := false) (by simp only [g_cons, a_tmp, Nat.reduceEqDiff, Nat.succ_ne_zero, if_false, if_true])]
  refine ⟨(fun h => by cases h), fun _ => ?_⟩
  simp only [c4r9, k_seq, o_mov, o_call, g_cons, p_some, a_tmp, a_fun, wp_seq, wp_reg, wp_skip, q_thenN, fn_call, List.map_cons, List.map_nil, Nat.reduceEqDiff, Nat.succ_ne_zero, if_false, if_true]
  refine (call15 (bs := b)).mono ?_
  rintro x s ⟨rfl, rfl⟩
  cases hu : proofR b with
  | ok l =>
    obtain ⟨p1, p2, p3⟩ := proofR_rd hu
    have hge := putEs_ge (c := l)
    rw [p1] at hge
    simp only [ndsV, c4r10, w0, BEq.rfl, List.getElem?_cons_zero, List.getElem?_cons_succ, k_call, k_seq, k_reg, k_some, o_nil, o_mov, o_bin, o_cvi, o_ext, g_cons, p_some, a_tmp, a_i64_0, wp_seq, wp_reg, q_thenN, evQ, binA, binInts, binI, Nat.reduceEqDiff, Nat.succ_ne_zero, List.getElem?_cons_zero, List.getElem?_cons_succ, if_false, if_true]
    rw [wp_cond (v := true) (by simp only [g_cons, a_tmp, Nat.reduceEqDiff, Nat.succ_ne_zero, if_false, if_true])]
    refine ⟨fun _ => ?_, (fun h => by cases h)⟩
    simp only [c4r11, o_mov, o_call, g_cons, p_some, a_tmp, a_fun, wp_seq, wp_reg, fn_call, List.map_cons, List.map_nil, Nat.reduceEqDiff, Nat.succ_ne_zero, if_false, if_true]
    refine (call14 p2 (by omega) (by rw [p1]; omega)).mono ?_
    rintro x s ⟨rfl, rfl⟩
    rw [p1]
    simp only [k_call, o_mov, o_call, g_cons, p_some, a_tmp, a_fun, fn_call, List.map_cons, List.map_nil, Nat.reduceEqDiff, Nat.succ_ne_zero, if_false, if_true]
    refine (call17 (bs := b)).mono ?_
    rintro x s ⟨rfl, rfl⟩
    simp only [k_call, k_seq, k_reg, o_nil, o_mov, g_cons, p_some, a_tmp, wp_ret, q_thenN, q_thenR, Nat.reduceEqDiff, Nat.succ_ne_zero, if_false, if_true]
    exact yes _ _ ⟨_, rfl⟩
  | error e =>
    rcases proofR_err hu with rfl | rfl
    · have w7 : IntKind.wrap .i64 ((7 : Nat) : Int) = 7 := rfl
      have n7 : ((7 : Int) == 0) = false := rfl
      simp only [ndsV, c4r10, w7, n7, List.getElem?_cons_zero, List.getElem?_cons_succ, k_call, k_seq, k_reg, k_some, o_nil, o_mov, o_bin, o_cvi, o_ext, g_cons, p_some, a_tmp, a_i64_0, wp_seq, wp_reg, q_thenN, evQ, binA, binInts, binI, Nat.reduceEqDiff, Nat.succ_ne_zero, List.getElem?_cons_zero, List.getElem?_cons_succ, if_false, if_true]
      rw [wp_cond (v := false) (by simp only [g_cons, a_tmp, Nat.reduceEqDiff, Nat.succ_ne_zero, if_false, if_true])]
      refine ⟨(fun h => by cases h), fun _ => ?_⟩
      have z0 : (((0 : Nat) : Int) == 0) = true := rfl
      simp only [c4r12, w7, z0, BEq.rfl, k_call, k_seq, k_reg, k_some, k_tt, k_tf, o_nil, o_grdM, o_mov, o_pick, o_bin, o_cvi, o_len, g_cons, p_some, a_tmp, a_bool, a_i64_0, a_i64_7, wp_seq, wp_reg, wp_skip, wp_ret, q_thenN, evQ, binA, binInts, binI, slen, lenA, Nat.reduceEqDiff, Nat.succ_ne_zero, List.length_nil, if_false, if_true]
      intro _
      exact yes _ _ ⟨_, rfl⟩
    · have w7 : IntKind.wrap .i64 ((10 : Nat) : Int) = 10 := rfl
      have n7 : ((10 : Int) == 0) = false := rfl
      have n8 : ((10 : Int) == 7) = false := rfl
      simp only [ndsV, c4r10, w7, n7, List.getElem?_cons_zero, List.getElem?_cons_succ, k_call, k_seq, k_reg, k_some, o_nil, o_mov, o_bin, o_cvi, o_ext, g_cons, p_some, a_tmp, a_i64_0, wp_seq, wp_reg, q_thenN, evQ, binA, binInts, binI, Nat.reduceEqDiff, Nat.succ_ne_zero, List.getElem?_cons_zero, List.getElem?_cons_succ, if_false, if_true]
      rw [wp_cond (v := false) (by simp only [g_cons, a_tmp, Nat.reduceEqDiff, Nat.succ_ne_zero, if_false, if_true])]
      refine ⟨(fun h => by cases h), fun _ => ?_⟩
      have z0 : (((0 : Nat) : Int) == 0) = true := rfl
      simp only [c4r12, w7, n8, z0, BEq.rfl, k_call, k_seq, k_reg, k_some, k_tt, k_ff, o_nil, o_grdM, o_mov, o_pick, o_bin, o_cvi, o_len, g_cons, p_some, a_tmp, a_bool, a_i64_0, a_i64_7, a_i64_10, wp_seq, wp_reg, wp_skip, wp_ret, q_thenN, evQ, binA, binInts, binI, slen, lenA, Nat.reduceEqDiff, Nat.succ_ne_zero, List.length_nil, Bool.false_eq_true, if_false, if_true]
      intro _
      exact yes _ _ ⟨_, rfl⟩
end Go.AW

/-
  What the arguments read as.
-/
namespace Go.AW
open Go Go.RowKit Go.Proofs
set_option linter.unusedVariables false
set_option linter.unusedSimpArgs false
set_option maxRecDepth 100000

/-- Nothing is owned; all that lies there is never written again. -/
def cW (W : World) : Cx := ⟨W, [], fun b off => ∃ v, W.cell? ⟨b, off, none⟩ = some v, []⟩
theorem cW_wr (W : World) : WR (cW W) := by
  have no : ∀ i b, ¬ Owns (cW W) i b := fun i b ⟨o, v, h, _⟩ => by simp [cW] at h
  exact ⟨rfl, fun i o h => by simp [cW] at h, fun i b h => (no i b h).elim, fun i j b h => (no i b h).elim, fun i b off h => (no i b h).elim, fun b off h => h⟩

/-- Cells that are told by a value. -/
def CR (c : Cx) (x : AV) (cs : List Value) : Prop := x.cells.length = cs.length ∧ (∀ u ∈ cs, u.oneCell' = true) ∧ ∀ (j : Nat) y u, x.cells[j]? = some y → cs[j]? = some u → VR c y u

section
variable {H : Type} {enc : TypeId × Value → H} {P : Program} {W : World} {sp : Nat → Bool} {hd : Bool}

theorem cells_get {base n : Nat} {a : Addr} {cs : List Value} (h : W.cells? base a n = some cs) : cs.length = n ∧ ∀ k, k < n → ∃ u, cs[k]? = some u ∧ W.cell? (a.add k) = some u := by
  unfold World.cells? at h
  split at h
  · have hl : cs.length = n := by simpa using mapM_some_length h
    refine ⟨hl, fun k hk => ?_⟩
    have := mapM_some_get h k k (by simp [hk])
    have hk' : k < cs.length := by omega
    exact ⟨cs[k], List.getElem?_eq_getElem hk', by rw [this, List.getElem?_eq_getElem hk']⟩
  · cases h
theorem spot_of {a : Addr} {u : Value} (h : W.cell? a = some u) : a.spot = none := by
  unfold World.cell? at h
  split at h
  · cases hs : a.spot with
    | none => rfl
    | some s => rw [hs] at h; simp at h
  · cases h
theorem add_add {a : Addr} {m k : Nat} {u : Value} (h : W.cell? ((a.add m).add k) = some u) : W.cell? ⟨a.block, a.off + (m + k), none⟩ = some u := by
  have hs := spot_of h
  have e : (a.add m).add k = ⟨a.block, a.off + (m + k), none⟩ := by
    obtain ⟨b, o, s⟩ := a
    unfold Addr.add at hs ⊢
    by_cases hm : m = 0 <;> by_cases hk : k = 0 <;> simp_all [Nat.add_assoc]
  rw [← e]; exact h

theorem weights_all {l : List (DataW H)} {e : TypeId} (h : (DataW.weightsAll P e l).all (· ≤ reachBytes) = true) : ∀ d ∈ l, (d.weights P e).all (· ≤ reachBytes) = true := by
  induction l with
  | nil => intro d hd; cases hd
  | cons x l ih =>
    simp only [DataW.weightsAll, List.all_append, Bool.and_eq_true] at h
    intro d hd
    rcases List.mem_cons.1 hd with rfl | hd
    · exact h.1
    · exact ih h.2 d hd

theorem sl_vr {t e : TypeId} {sz fuel : Nat} {cs : List Value} {d : DataW H} {ps : List MemPlace} {Q : AV → Prop} (ht : P.underlying t = some (.slice e)) (hsz : P.cellsOf e = sz) (h0 : 0 < sz) (hby : 1 ≤ P.bytesOf e) (hQ : ∀ x, Q x → x.pure1 = true)
    (elem : ∀ m cs d ps, m < fuel → DataW.trod enc P W 0 sp hd m e cs = some (d, ps) → (d.weights P e).all (· ≤ reachBytes) = true → ∃ x, Q x ∧ CR (cW W) x cs ∧ cs.length = sz)
    (h : DataW.trod enc P W 0 sp hd fuel t cs = some (d, ps)) (hw : (d.weights P t).all (· ≤ reachBytes) = true) : ∃ xs v, cs = [v] ∧ (∀ x ∈ xs, Q x) ∧ VR (cW W) (.sl false xs) v ∧ v.oneCell' = true := by
  rcases DataW.trod_slice ht h with ⟨rfl, _⟩ | ⟨a, len, cap, elems, rest, n, rfl, rfl, hd', hb, hlc, hcm, hel, hget, _, _⟩
  · exact ⟨[], _, rfl, fun x hx => by simp at hx, VR.nil.clipOff, rfl⟩
  · injection hd' with hd1 hd2
    subst hd1
    simp only [DataW.weights, ht, List.all_cons, List.all_append, Bool.and_eq_true, decide_eq_true_eq, List.length_map] at hw
    obtain ⟨hw1, hw2, _⟩ := hw
    have hlen : len ≤ 140737488355328 := by
      have e1 : reachBytes = 140737488351232 := by decide
      have : elems.length + rest.length ≤ (elems.length + rest.length) * P.bytesOf e := Nat.le_mul_of_pos_right _ hby
      omega
    have hwe := weights_all hw2
    have key : ∀ i, ∃ x : AV, i < len → Q x ∧ x.cells.length = sz ∧ ∀ k y, x.cells[k]? = some y → ∃ u, W.cell? ⟨a.block, a.off + (i * sz + k), none⟩ = some u ∧ u.oneCell' = true ∧ VR (cW W) y u := by
      intro i
      by_cases hi : i < len
      · have hg := hget i hi
        have hi' : i < elems.length := by omega
        rw [List.getElem?_eq_getElem hi'] at hg
        obtain ⟨cs, h1, h2⟩ := Option.bind_eq_some_iff.1 hg
        rw [hsz] at h1
        obtain ⟨c1, c2⟩ := cells_get h1
        rcases hel' : elems[i] with ⟨d', ps'⟩
        rw [hel'] at h2
        obtain ⟨x, q1, q2, q3⟩ := elem n cs d' ps' (by omega) h2 (hwe d' (List.mem_map.2 ⟨_, List.getElem_mem hi', by rw [hel']⟩))
        refine ⟨x, fun _ => ⟨q1, by rw [q2.1, q3], fun k y hy => ?_⟩⟩
        have hk : k < sz := by have := (List.getElem?_eq_some_iff.1 hy).1; rw [q2.1, q3] at this; exact this
        obtain ⟨u, u1, u2⟩ := c2 k hk
        exact ⟨u, add_add u2, q2.2.1 u (List.mem_of_getElem? u1), q2.2.2 k y u hy u1⟩
      · exact ⟨.any, fun h => absurd h hi⟩
    obtain ⟨f, hf⟩ := Classical.axiomOfChoice key
    have hxs : ∀ x ∈ (List.range len).map f, x.cells.length = sz := by
      intro x hx
      obtain ⟨i, hi, rfl⟩ := List.mem_map.1 hx
      exact (hf i (List.mem_range.1 hi)).2.1
    have hspot : 0 < len → a.spot = none := by
      intro hp
      have hg := hget 0 hp
      have hi' : 0 < elems.length := by omega
      rw [List.getElem?_eq_getElem hi'] at hg
      obtain ⟨cs, h1, h2⟩ := Option.bind_eq_some_iff.1 hg
      rw [hsz] at h1
      obtain ⟨u, _, u2⟩ := (cells_get h1).2 0 h0
      rw [Nat.zero_mul] at u2
      exact spot_of (show W.cell? a = some u by simpa [Addr.add] using u2)
    have hcell : ∀ (j : Nat) x, (flat ((List.range len).map f))[j]? = some x → 0 < len ∧ ∃ u, W.cell? ⟨a.block, a.off + j, none⟩ = some u ∧ u.oneCell' = true ∧ VR (cW W) x u := by
      intro j x hj
      have hjl := (List.getElem?_eq_some_iff.1 hj).1
      rw [flat_len hxs, List.length_map, List.length_range] at hjl
      have hi : j / sz < len := Nat.div_lt_of_lt_mul (by rw [Nat.mul_comm]; exact hjl)
      have hk : j % sz < sz := Nat.mod_lt _ h0
      have hjk : j / sz * sz + j % sz = j := Nat.div_add_mod' j sz
      have hx : ((List.range len).map f)[j / sz]? = some (f (j / sz)) := by simp [hi]
      have := flat_get hxs hx hk
      rw [hjk, hj] at this
      obtain ⟨u, u1, u2, u3⟩ := (hf _ hi).2.2 _ x this.symm
      rw [hjk] at u1
      exact ⟨Nat.lt_of_le_of_lt (Nat.zero_le _) hi, u, u1, u2, u3⟩
    refine ⟨(List.range len).map f, _, rfl, fun x hx => ?_, ?_, rfl⟩
    · obtain ⟨i, hi, rfl⟩ := List.mem_map.1 hx
      exact (hf i (List.mem_range.1 hi)).1
    · refine .sl sz (fun j => (W.cell? ⟨a.block, a.off + j, none⟩).getD undef) (by simp) hlc (fun h => by cases h) hcm hlen (fun h => by cases h) (fun ad h1 h2 => by injection h1 with h1; subst h1; exact hspot h2) (fun x hx => ?_) hxs (fun ad j x h1 h2 => ?_) (fun j x h2 => ?_) (fun j x h2 => ?_)
      · obtain ⟨i, hi, rfl⟩ := List.mem_map.1 hx
        exact hQ _ (hf i (List.mem_range.1 hi)).1
      · injection h1 with h1; subst h1
        obtain ⟨hp, u, u1, u2, u3⟩ := hcell j x h2
        exact ⟨hspot hp, ⟨u, u1⟩, by show W.cell? _ = _; rw [u1]; rfl⟩
      · obtain ⟨hp, u, u1, u2, u3⟩ := hcell j x h2
        simp only [u1, Option.getD_some]; exact u2
      · obtain ⟨hp, u, u1, u2, u3⟩ := hcell j x h2
        simp only [u1, Option.getD_some]; exact u3
end
end Go.AW

/-
  What the arguments read as: bytes, terms, clauses, events.
-/
namespace Go.AW
open Go Go.RowKit Go.Proofs
set_option linter.unusedVariables false
set_option linter.unusedSimpArgs false
set_option maxRecDepth 100000

section
variable {H : Type} {enc : TypeId × Value → H} {W : World} {sp : Nat → Bool} {hd : Bool}

theorem int_plain {k : IntKind} {n : Int} (h : (Lit.int k n).wf = true) : plainV (.int k n) = true := by
  simpa [plainV, Lit.wf] using h

theorem int_vr {fuel : Nat} {cs : List Value} {d : DataW H} {ps : List MemPlace} (h : DataW.trod enc Tryz.prog W 0 sp hd fuel 3 cs = some (d, ps)) : ∃ n, cs = [.int .i64 n] ∧ VR (cW W) (.sc (.int .i64 n)) (.int .i64 n) := by
  obtain ⟨n, h1, _, h2⟩ := DataW.trod_int Tryz.underlying3 h
  exact ⟨n, h1, .sc (int_plain h2)⟩
theorem bool_vr {fuel : Nat} {cs : List Value} {d : DataW H} {ps : List MemPlace} (h : DataW.trod enc Tryz.prog W 0 sp hd fuel 4 cs = some (d, ps)) : ∃ b, cs = [.bool b] ∧ VR (cW W) (.sc (.bool b)) (.bool b) := by
  obtain ⟨b, h1, _⟩ := DataW.trod_bool Tryz.underlying4 h
  exact ⟨b, h1, .sc rfl⟩

theorem list_of {α : Type} {f : α → AV} : ∀ {xs : List AV}, (∀ x ∈ xs, ∃ a, x = f a) → ∃ l : List α, xs = l.map f
  | [], _ => ⟨[], rfl⟩
  | x :: xs, h => by
    obtain ⟨a, ha⟩ := h x (by simp)
    obtain ⟨l, has⟩ := list_of (xs := xs) (fun y hy => h y (by simp [hy]))
    exact ⟨a :: l, by rw [List.map_cons, ← ha, ← has]⟩

theorem bytes_vr {fuel : Nat} {cs : List Value} {d : DataW H} {ps : List MemPlace} (h : DataW.trod enc Tryz.prog W 0 sp hd fuel 46 cs = some (d, ps)) (hw : (d.weights Tryz.prog 46).all (· ≤ reachBytes) = true) : ∃ bs v, cs = [v] ∧ VR (cW W) (bA bs) v := by
  obtain ⟨xs, v, h1, h2, h3, _⟩ := sl_vr (e := 5) (sz := 1) (Q := fun x => ∃ b, x = u8A b) Tryz.underlying46 (by kernel_rfl) (by omega) (by rw [show Tryz.prog.bytesOf 5 = 1 by kernel_rfl]; omega) (fun x ⟨b, hb⟩ => by subst hb; rfl) (fun m cs d ps _ h _ => by
    obtain ⟨n, rfl, _, hwf⟩ := DataW.trod_int Tryz.underlying5 h
    have hp := int_plain hwf
    have hr : 0 ≤ n ∧ n ≤ 255 := by
      have e1 : IntKind.min .u8 = 0 := rfl
      have e2 : IntKind.max .u8 = 255 := rfl
      simpa [plainV, e1, e2] using hp
    have hb : u8A (UInt8.ofNat n.toNat) = .sc (.int .u8 n) := by
      rw [u8A_nat (by omega)]
      congr 2; omega
    refine ⟨u8A (UInt8.ofNat n.toNat), ⟨_, rfl⟩, ?_, rfl⟩
    rw [hb]
    refine ⟨rfl, fun u hu => by simp at hu; subst hu; rfl, fun j y u hy hu => ?_⟩
    match j with
    | 0 => simp [AV.cells] at hy hu; subst hy; subst hu; exact .sc hp
    | j + 1 => simp [AV.cells] at hy) h hw
  obtain ⟨bs, rfl⟩ := list_of h2
  exact ⟨bs, v, h1, h3⟩

theorem cr_one {x : AV} {v : Value} {fuel : Nat} (hx : x.cells = [x]) (h : VR (cW W) x v) (h1 : v.oneCell' = true) : CR (cW W) x [v] := by
  refine ⟨by rw [hx]; rfl, fun u hu => by simp at hu; subst hu; exact h1, fun j y u hy hu => ?_⟩
  rw [hx] at hy
  match j with
  | 0 => simp at hy hu; subst hy; subst hu; exact h
  | j + 1 => simp at hy
theorem cr_cons {x : AV} {v : Value} {ys : List AV} {vs : List Value} (h : VR (cW W) x v) (h1 : v.oneCell' = true) (hr : CR (cW W) (.agg ys) vs) : CR (cW W) (.agg (x :: ys)) (v :: vs) := by
  obtain ⟨r1, r2, r3⟩ := hr
  refine ⟨by simpa [AV.cells] using r1, fun u hu => ?_, fun j y u hy hu => ?_⟩
  · rcases List.mem_cons.1 hu with rfl | hu
    · exact h1
    · exact r2 u hu
  · match j with
    | 0 => simp [AV.cells] at hy hu; subst hy; subst hu; exact h
    | j + 1 => exact r3 j y u (by simpa [AV.cells] using hy) (by simpa using hu)
theorem cr_nil : CR (cW W) (.agg []) [] := ⟨rfl, (fun u hu => by cases hu), (fun j y u hy hu => by simp at hu)⟩
theorem cr_app {xs ys : List AV} {us vs : List Value} (h : CR (cW W) (.agg xs) us) (k : CR (cW W) (.agg ys) vs) : CR (cW W) (.agg (xs ++ ys)) (us ++ vs) := by
  obtain ⟨h1, h2, h3⟩ := h
  obtain ⟨k1, k2, k3⟩ := k
  simp only [AV.cells] at h1 h3 k1 k3
  refine ⟨by simp [AV.cells, h1, k1], fun u hu => ?_, fun j y u hy hu => ?_⟩
  · rcases List.mem_append.1 hu with hu | hu
    · exact h2 u hu
    · exact k2 u hu
  · simp only [AV.cells] at hy
    by_cases hj : j < xs.length
    · rw [List.getElem?_append_left hj] at hy
      rw [List.getElem?_append_left (by omega)] at hu
      exact h3 j y u hy hu
    · rw [List.getElem?_append_right (by omega)] at hy
      rw [List.getElem?_append_right (by omega), ← h1] at hu
      exact k3 _ y u hy hu

theorem each_cons {P : Program} {t : TypeId} {ts : List TypeId} {d : DataW H} {ds : List (DataW H)} (h : (DataW.weightsEach P (t :: ts) (d :: ds)).all (· ≤ reachBytes) = true) : (d.weights P t).all (· ≤ reachBytes) = true ∧ (DataW.weightsEach P ts ds).all (· ≤ reachBytes) = true := by
  simp only [DataW.weightsEach, List.all_append, Bool.and_eq_true] at h
  exact h

theorem tm_vr : ∀ (fuel : Nat) (cs : List Value) (d : DataW H) (ps : List MemPlace), DataW.trod enc Tryz.prog W 0 sp hd fuel 83 cs = some (d, ps) → (d.weights Tryz.prog 83).all (· ≤ reachBytes) = true → ∃ t, CR (cW W) (tmA t) cs ∧ cs.length = 2 := by
  intro fuel
  induction fuel using Nat.strongRecOn with
  | _ fuel ih =>
    intro cs d ps h hw
    obtain ⟨xs, n, rfl, hd', hl, hxl, hf⟩ := DataW.trod_struct Tryz.underlying83 h
    injection hd' with hd1 _
    subst hd1
    have e83 : Tryz.prog.cellsOf 83 = 2 := by kernel_rfl
    have e3 : Tryz.prog.cellsOf 3 = 1 := by kernel_rfl
    have e81 : Tryz.prog.cellsOf 81 = 1 := by kernel_rfl
    rw [e83] at hl
    match cs, hl with
    | [a, b], _ =>
      match xs, hxl with
      | [y0, y1], _ =>
        have f0 := hf 0 _ rfl
        have f1 := hf 1 _ rfl
        simp only [e3, e81, List.drop_zero, List.take_succ_cons, List.take_zero, List.drop_succ_cons, List.getElem?_cons_zero, List.getElem?_cons_succ] at f0 f1
        simp only [DataW.weights, Tryz.underlying83, List.map_cons, List.map_nil] at hw
        obtain ⟨w0, hw⟩ := each_cons hw
        obtain ⟨w1, _⟩ := each_cons hw
        obtain ⟨F, g1, g2⟩ := int_vr (d := y0.1) (ps := y0.2) f0
        obtain ⟨xs, v, k1, k2, k3, k4⟩ := sl_vr (e := 83) (sz := 2) (d := y1.1) (ps := y1.2) (Q := fun x => ∃ t, x = tmA t) Tryz.underlying81 e83 (by omega) (by rw [show Tryz.prog.bytesOf 83 = 32 by kernel_rfl]; omega) (fun x ⟨⟨F, L⟩, ht⟩ => by subst ht; rfl) (fun m cs d ps hm h hw => by
          obtain ⟨t, t1, t2⟩ := ih m (by omega) cs d ps h hw
          exact ⟨_, ⟨t, rfl⟩, t1, t2⟩) f1 w1
        injection g1 with g1; subst g1
        injection k1 with k1; subst k1
        obtain ⟨L, rfl⟩ := list_of k2
        refine ⟨.mk F L, ?_, rfl⟩
        rw [tmA, tmAL_map]
        exact cr_cons g2 rfl (cr_cons k3 k4 cr_nil)

theorem li_vr {fuel : Nat} {cs : List Value} {d : DataW H} {ps : List MemPlace} (h : DataW.trod enc Tryz.prog W 0 sp hd fuel 85 cs = some (d, ps)) (hw : (d.weights Tryz.prog 85).all (· ≤ reachBytes) = true) : ∃ l, CR (cW W) (liA l) cs ∧ cs.length = 5 := by
  obtain ⟨xs, n, rfl, hd', hl, hxl, hf⟩ := DataW.trod_struct Tryz.underlying85 h
  injection hd' with hd1 _
  subst hd1
  have e85 : Tryz.prog.cellsOf 85 = 5 := by kernel_rfl
  have e83 : Tryz.prog.cellsOf 83 = 2 := by kernel_rfl
  have e4 : Tryz.prog.cellsOf 4 = 1 := by kernel_rfl
  rw [e85] at hl
  match cs, hl with
  | [a, b, c, d, e], _ =>
    match xs, hxl with
    | [y0, y1, y2], _ =>
      have f0 := hf 0 _ rfl
      have f1 := hf 1 _ rfl
      have f2 := hf 2 _ rfl
      simp only [e4, e83, List.drop_zero, List.take_succ_cons, List.take_zero, List.drop_succ_cons, List.getElem?_cons_zero, List.getElem?_cons_succ] at f0 f1 f2
      simp only [DataW.weights, Tryz.underlying85, List.map_cons, List.map_nil] at hw
      obtain ⟨w0, hw⟩ := each_cons hw
      obtain ⟨w1, hw⟩ := each_cons hw
      obtain ⟨w2, _⟩ := each_cons hw
      obtain ⟨neg, g1, g2⟩ := bool_vr (d := y0.1) (ps := y0.2) f0
      obtain ⟨⟨F, L⟩, t1, _⟩ := tm_vr n _ y1.1 y1.2 f1 w1
      obtain ⟨⟨G, M⟩, t2, _⟩ := tm_vr n _ y2.1 y2.2 f2 w2
      injection g1 with g1; subst g1
      rw [tmA] at t1 t2
      refine ⟨⟨neg, .mk F L, .mk G M⟩, ?_, rfl⟩
      exact cr_cons g2 rfl (cr_app t1 t2)

theorem clause_vr {fuel : Nat} {cs : List Value} {d : DataW H} {ps : List MemPlace} (h : DataW.trod enc Tryz.prog W 0 sp hd fuel 42 cs = some (d, ps)) (hw : (d.weights Tryz.prog 42).all (· ≤ reachBytes) = true) : ∃ (c : List Li) (v : Value), cs = [v] ∧ VR (cW W) (.sl false (c.map liA)) v ∧ v.oneCell' = true := by
  obtain ⟨xs, v, h1, h2, h3, h4⟩ := sl_vr (e := 85) (sz := 5) (Q := fun x => ∃ l, x = liA l) Tryz.underlying42 (by kernel_rfl) (by omega) (by rw [show Tryz.prog.bytesOf 85 = 72 by kernel_rfl]; omega) (fun x ⟨l, hl⟩ => by subst hl; rfl) (fun m cs d ps _ h hw => by
    obtain ⟨l, l1, l2⟩ := li_vr h hw
    exact ⟨_, ⟨l, rfl⟩, l1, l2⟩) h hw
  obtain ⟨c, rfl⟩ := list_of h2
  exact ⟨c, v, h1, h3, h4⟩

theorem nd_vr {fuel : Nat} {cs : List Value} {d : DataW H} {ps : List MemPlace} (h : DataW.trod enc Tryz.prog W 0 sp hd fuel 50 cs = some (d, ps)) (hw : (d.weights Tryz.prog 50).all (· ≤ reachBytes) = true) : ∃ n, CR (cW W) (ndA n) cs ∧ cs.length = 5 := by
  obtain ⟨xs, n, rfl, hd', hl, hxl, hf⟩ := DataW.trod_struct Tryz.underlying50 h
  injection hd' with hd1 _
  subst hd1
  have e50 : Tryz.prog.cellsOf 50 = 5 := by kernel_rfl
  have e3 : Tryz.prog.cellsOf 3 = 1 := by kernel_rfl
  have e42 : Tryz.prog.cellsOf 42 = 1 := by kernel_rfl
  rw [e50] at hl
  match cs, hl with
  | [a, b, c, d, e], _ =>
    match xs, hxl with
    | [y0, y1, y2, y3, y4], _ =>
      have f0 := hf 0 _ rfl
      have f1 := hf 1 _ rfl
      have f2 := hf 2 _ rfl
      have f3 := hf 3 _ rfl
      have f4 := hf 4 _ rfl
      simp only [e3, e42, List.drop_zero, List.take_succ_cons, List.take_zero, List.drop_succ_cons, List.getElem?_cons_zero, List.getElem?_cons_succ] at f0 f1 f2 f3 f4
      simp only [DataW.weights, Tryz.underlying50, List.map_cons, List.map_nil] at hw
      obtain ⟨w0, hw⟩ := each_cons hw
      obtain ⟨w1, hw⟩ := each_cons hw
      obtain ⟨w2, hw⟩ := each_cons hw
      obtain ⟨w3, hw⟩ := each_cons hw
      obtain ⟨w4, _⟩ := each_cons hw
      obtain ⟨v0, g0, k0⟩ := int_vr (d := y0.1) (ps := y0.2) f0
      obtain ⟨v1, g1, k1⟩ := int_vr (d := y1.1) (ps := y1.2) f1
      obtain ⟨v2, g2, k2⟩ := int_vr (d := y2.1) (ps := y2.2) f2
      obtain ⟨v3, g3, k3⟩ := int_vr (d := y3.1) (ps := y3.2) f3
      obtain ⟨cl, v, g4, k4, k5⟩ := clause_vr (d := y4.1) (ps := y4.2) f4 w4
      injection g0 with g0; subst g0
      injection g1 with g1; subst g1
      injection g2 with g2; subst g2
      injection g3 with g3; subst g3
      injection g4 with g4; subst g4
      exact ⟨⟨v0, v1, v2, v3, cl⟩, cr_cons k0 rfl (cr_cons k1 rfl (cr_cons k2 rfl (cr_cons k3 rfl (cr_cons k4 k5 cr_nil)))), rfl⟩

theorem ev_vr {fuel : Nat} {cs : List Value} {d : DataW H} {ps : List MemPlace} (h : DataW.trod enc Tryz.prog W 0 sp hd fuel 52 cs = some (d, ps)) (hw : (d.weights Tryz.prog 52).all (· ≤ reachBytes) = true) : ∃ e, CR (cW W) (evA e) cs ∧ cs.length = 7 := by
  obtain ⟨xs, n, rfl, hd', hl, hxl, hf⟩ := DataW.trod_struct Tryz.underlying52 h
  injection hd' with hd1 _
  subst hd1
  have e52 : Tryz.prog.cellsOf 52 = 7 := by kernel_rfl
  have e3 : Tryz.prog.cellsOf 3 = 1 := by kernel_rfl
  have e50 : Tryz.prog.cellsOf 50 = 5 := by kernel_rfl
  rw [e52] at hl
  match cs, hl with
  | [a, b, c, d, e, f, g], _ =>
    match xs, hxl with
    | [y0, y1, y2], _ =>
      have f0 := hf 0 _ rfl
      have f1 := hf 1 _ rfl
      have f2 := hf 2 _ rfl
      simp only [e3, e50, List.drop_zero, List.take_succ_cons, List.take_zero, List.drop_succ_cons, List.getElem?_cons_zero, List.getElem?_cons_succ] at f0 f1 f2
      simp only [DataW.weights, Tryz.underlying52, List.map_cons, List.map_nil] at hw
      obtain ⟨w0, hw⟩ := each_cons hw
      obtain ⟨w1, hw⟩ := each_cons hw
      obtain ⟨w2, _⟩ := each_cons hw
      obtain ⟨v0, g0, k0⟩ := int_vr (d := y0.1) (ps := y0.2) f0
      obtain ⟨v1, g1, k1⟩ := int_vr (d := y1.1) (ps := y1.2) f1
      obtain ⟨nd, k2, _⟩ := nd_vr (d := y2.1) (ps := y2.2) f2 w2
      injection g0 with g0; subst g0
      injection g1 with g1; subst g1
      exact ⟨⟨v0, v1, nd⟩, cr_cons k0 rfl (cr_cons k1 rfl k2), rfl⟩

theorem evs_vr {fuel : Nat} {cs : List Value} {d : DataW H} {ps : List MemPlace} (h : DataW.trod enc Tryz.prog W 0 sp hd fuel 45 cs = some (d, ps)) (hw : (d.weights Tryz.prog 45).all (· ≤ reachBytes) = true) : ∃ (es : List Ev) (v : Value), cs = [v] ∧ VR (cW W) (.sl false (es.map evA)) v := by
  obtain ⟨xs, v, h1, h2, h3, _⟩ := sl_vr (e := 52) (sz := 7) (Q := fun x => ∃ l, x = evA l) Tryz.underlying45 (by kernel_rfl) (by omega) (by rw [show Tryz.prog.bytesOf 52 = 72 by kernel_rfl]; omega) (fun x ⟨l, hl⟩ => by subst hl; rfl) (fun m cs d ps _ h hw => by
    obtain ⟨l, l1, l2⟩ := ev_vr h hw
    exact ⟨_, ⟨l, rfl⟩, l1, l2⟩) h hw
  obtain ⟨c, rfl⟩ := list_of h2
  exact ⟨c, v, h1, h3⟩
end
end Go.AW
