/-
  The walks through the codec, part two.
-/
import Derived.Test.YtkpnemmniepchaaGreatY1
/-
  Which events are looked at.
-/
namespace Go.AW
open Go Go.RowKit Go.Proofs
set_option linter.unusedVariables false
set_option linter.unusedSimpArgs false
set_option maxRecDepth 100000

def Li.fine (l : Li) : Prop := (l.a.fine 8 ∧ l.a.size ≤ 8) ∧ l.b.fine 8 ∧ l.b.size ≤ 8

theorem call29 {st : List AO} {k : Int} : ACall Tryz.prog 29 [.sc (.int .i64 k)] st (fun x s => s = st ∧ ∃ b : Bool, x = .sc (.bool b) ∧ (b = true → smI k)) := by
  refine acall_t t29 (by simp) ?_
  by_cases h : k ≥ -2147483648
  · have h1 : decide (k ≥ -2147483648) = true := by simpa using h
    simp only [c29, c29r0, h1, k_call, k_seq, k_reg, k_some, k_tt, o_nil, o_grdM, o_mov, o_pick, o_bin, g_cons, p_some, a_tmp, a_bool, a_i64_2147483648, a_i64_m2147483648, wp_seq, wp_reg, wp_ret, q_thenN, binA, binInts, binI, argE, Nat.reduceEqDiff, Nat.succ_ne_zero, if_false, if_true]
    refine fin_tmp (.inr rfl) ?_
    simp only [g_cons, Nat.reduceEqDiff, Nat.succ_ne_zero, if_false, if_true]
    refine fin_keep0 ⟨rfl, _, frz_sc, fun hb => ?_⟩
    have : k < 2147483648 := by simpa using hb
    exact ⟨h, by omega⟩
  · have h1 : decide (k ≥ -2147483648) = false := by simpa using h
    simp only [c29, c29r0, h1, k_call, k_seq, k_reg, k_some, k_ft, o_nil, o_grdM, o_mov, o_pick, o_bin, g_cons, p_some, a_tmp, a_bool, a_i64_m2147483648, wp_seq, wp_reg, wp_ret, q_thenN, binA, binInts, binI, argE, Nat.reduceEqDiff, Nat.succ_ne_zero, Bool.false_eq_true, if_false, if_true]
    refine fin_tmp (.inr rfl) ?_
    simp only [g_cons, Nat.reduceEqDiff, Nat.succ_ne_zero, if_false, if_true]
    exact fin_keep0 ⟨rfl, _, frz_sc, (fun hb => by cases hb)⟩

set_option maxHeartbeats 4000000 in
theorem call21 {st : List AO} {c : List Li} : ACall Tryz.prog 21 [.sl false (c.map liA), .sc (.int .i64 3), .sc (.int .i64 8)] st (fun x s => s = st ∧ ∃ b : Bool, x = .sc (.bool b) ∧ (b = true → c.length ≤ 3 ∧ ∀ l ∈ c, l.fine)) := by
  refine acall_t t21 (by simp) ?_
  have bad : ∀ (E : Env), FinQ [.tmp 6] st (fun x s => s = st ∧ ∃ b : Bool, x = .sc (.bool b) ∧ (b = true → c.length ≤ 3 ∧ ∀ l ∈ c, l.fine)) .ret ((6, .sc (.bool false)) :: E) [] st := by
    intro E
    refine fin_tmp (.inr rfl) (fin_keep0 ⟨rfl, false, ?_, (fun h => by cases h)⟩)
    simp only [g_cons, if_true, frz_sc]
  simp only [c21, c21r0, List.length_map, k_call, k_seq, k_reg, k_some, o_nil, o_mov, o_bin, o_len, g_cons, p_some, a_tmp, a_bool, wp_seq, wp_reg, q_thenN, binA, binInts, binI, slen, lenA, argE, Nat.reduceEqDiff, Nat.reduceAdd, Nat.succ_ne_zero, Nat.zero_add, if_false, if_true]
  intro _
  rw [wp_cond (v := decide ((c.length : Int) > 3)) (by simp only [g_cons, a_tmp, Nat.reduceEqDiff, Nat.succ_ne_zero, if_false, if_true])]
  refine ⟨fun h => ?_, fun h => ?_⟩
  · simp only [k_seq, k_reg, o_nil, o_mov, p_some, a_bool, wp_seq, wp_reg, wp_ret, q_thenN, q_thenR]; exact bad _
  have h3 : c.length ≤ 3 := by have : ¬ (c.length : Int) > 3 := by simpa using h
                               omega
  simp only [k_seq, k_reg, o_nil, o_mov, p_some, a_i64_0, wp_seq, wp_reg, wp_skip, wp_block, wp_loop, q_thenN]
  refine loop_rule (fun (k : Nat) E st' => k ≤ c.length ∧ st' = st ∧ E = [(0, .sl false (c.map liA)), (2, .sc (.int .i64 8)), (7, .sc (.int .i64 (k : Nat)))] ∧ ∀ l ∈ c.take k, l.fine) (fun k => c.length - k)
    0 [(0, .sl false (c.map liA)), (2, .sc (.int .i64 8)), (7, .sc (.int .i64 0))] (by simp only [SubE, g_cons, Nat.reduceEqDiff, Nat.succ_ne_zero, and_true, if_false, if_true]) ⟨Nat.zero_le _, rfl, rfl, by simp⟩ ?_
  rintro k E st' ⟨hk, rfl, rfl, hall⟩
  simp only [c21l4, c21r1, List.length_map, k_call, k_seq, k_reg, k_some, o_nil, o_mov, o_bin, o_len, g_cons, p_some, a_tmp, wp_seq, wp_reg, q_thenN, binA, binInts, binI, slen, lenA, Nat.reduceEqDiff, Nat.succ_ne_zero, if_false, if_true]
  intro _
  rw [wp_cond (v := decide (k < c.length)) (by simp only [dec_lt, g_cons, a_tmp, Nat.reduceEqDiff, Nat.succ_ne_zero, if_false, if_true])]
  refine ⟨fun h => ?_, fun h => ?_⟩
  · have hk1 : k < c.length := by simpa using h
    obtain ⟨l, ht, hmem⟩ := get_lt hk1
    have ht' : (c.map liA)[k]? = some (liA l) := get_map ht
    have hk2 : k < (c.map liA).length := by simpa using hk1
    obtain ⟨neg, ⟨F, L⟩, ⟨G, M⟩⟩ := l
    simp only [liA, Tm.F, Tm.L] at ht'
    have hA : ∀ s : List AO, loadA s true 2 (.ep (.sl false (c.map liA)) 5 k 1) = some (.agg [.sc (.int .i64 F), .sl false (tmAL L)]) := fun s => by rw [ld_sub (sz := 5) ht' rfl (by omega)]; rfl
    have hB : ∀ s : List AO, loadA s true 2 (.ep (.sl false (c.map liA)) 5 k 3) = some (.agg [.sc (.int .i64 G), .sl false (tmAL M)]) := fun s => by rw [ld_sub (sz := 5) ht' rfl (by omega)]; rfl
    have hA2 := call48 _ (.mk F L) (Nat.lt_succ_self _) (st := st') (most := 8) (deep := 8) (by omega) (by omega) (by omega) (by omega)
    have hB2 := call48 _ (.mk G M) (Nat.lt_succ_self _) (st := st') (most := 8) (deep := 8) (by omega) (by omega) (by omega) (by omega)
    rw [tmA] at hA2 hB2
    simp only [c21r2, hk1, hA, List.length_map, k_call, k_seq, k_some, o_mov, o_load, o_faddr, o_iaddr, o_call, g_cons, p_some, a_tmp, a_fun, a_i64_8, wp_seq, wp_reg, wp_skip, wp_block, q_thenN, fn_call, evQ, slen, natA_nat, List.map_cons, List.map_nil, Nat.reduceEqDiff, Nat.succ_ne_zero, Nat.zero_add, if_false, if_true]
    refine hA2.mono ?_
    rintro x s ⟨rfl, r, rfl, r1, r2, r3⟩
    simp only [k_call, k_some, o_grdM, o_mov, o_bin, g_cons, p_some, a_tmp, a_i64_0, binA, binInts, binI, Nat.reduceEqDiff, Nat.succ_ne_zero, if_false, if_true]
    by_cases hr : r < 0
    · have d1 : decide (r < 0) = true := by simpa using hr
      simp only [d1, k_call, k_seq, k_reg, k_some, k_tf, o_nil, o_grdM, o_pick, g_cons, p_some, a_tmp, a_bool, q_thenN, Nat.reduceEqDiff, Nat.succ_ne_zero, if_false, if_true]
      rw [wp_cond (v := true) (by simp only [g_cons, a_tmp, Nat.reduceEqDiff, Nat.succ_ne_zero, if_false, if_true])]
      refine ⟨fun _ => ?_, (fun h => by cases h)⟩
      simp only [k_seq, k_reg, o_nil, o_mov, p_some, a_bool, wp_seq, wp_reg, wp_ret, q_thenN, q_thenR, q_blkR, q_nxtR]
      exact bad _
    · have d1 : decide (r < 0) = false := by simpa using hr
      simp only [d1, hk1, hB, List.length_map, k_call, k_some, k_ff, o_grdM, o_mov, o_load, o_faddr, o_iaddr, o_call, g_cons, p_some, a_tmp, a_fun, a_i64_8, fn_call, evQ, slen, natA_nat, List.map_cons, List.map_nil, Nat.reduceEqDiff, Nat.succ_ne_zero, Nat.zero_add, if_false, if_true]
      refine hB2.mono ?_
      rintro x s ⟨rfl, q, rfl, q1, q2, q3⟩
      simp only [k_call, k_seq, k_reg, k_some, k_ff, o_nil, o_grdM, o_pick, o_bin, g_cons, p_some, a_tmp, a_bool, a_i64_0, q_thenN, binA, binInts, binI, Nat.reduceEqDiff, Nat.succ_ne_zero, Bool.false_eq_true, if_false, if_true]
      rw [wp_cond (v := decide (q < 0)) (by simp only [g_cons, a_tmp, Nat.reduceEqDiff, Nat.succ_ne_zero, if_false, if_true])]
      refine ⟨fun _ => ?_, fun hq => ?_⟩
      · simp only [k_seq, k_reg, o_nil, o_mov, p_some, a_bool, wp_seq, wp_reg, wp_ret, q_thenN, q_thenR, q_blkR, q_nxtR]; exact bad _
      have hq0 : ¬ q < 0 := by simpa using hq
      simp only [c21r3, wrap_succ (show k < 9223372036854775807 by omega), k_call, k_seq, k_reg, k_some, o_nil, o_mov, o_bin, g_cons, p_some, a_tmp, a_i64_1, wp_reg, wp_skip, q_thenN, q_blkN, q_nxtN, binA, binInts, binI, Nat.reduceEqDiff, Nat.succ_ne_zero, true_and, if_false, if_true]
      refine ⟨_, (?_ : SubE [(0, _), (2, _), (7, _)] _), k + 1, by omega, by omega, rfl, fun l hl => ?_⟩
      · simp only [SubE, g_cons, Nat.reduceEqDiff, Nat.succ_ne_zero, and_true, if_false, if_true]
      · rw [take_succ ht] at hl
        rcases List.mem_append.1 hl with h | h
        · exact hall l h
        · simp only [List.mem_singleton] at h; subst h
          obtain ⟨g1, g2⟩ := r3 (by omega)
          obtain ⟨g3, g4⟩ := q3 (by omega)
          exact ⟨⟨g1, by simp only; omega⟩, g3, by simp only; omega⟩
  · have hk0 : k = c.length := by have : ¬ k < c.length := by simpa using h
                                  omega
    subst hk0
    rw [List.take_length] at hall
    simp only [k_seq, k_reg, o_nil, o_mov, p_some, a_bool, wp_seq, wp_reg, wp_ret, wp_exit, q_thenN, q_thenE, q_blkE, q_nxtE, if_true]
    refine fin_tmp (.inr rfl) ?_
    simp only [g_cons, Nat.reduceEqDiff, Nat.succ_ne_zero, if_false, if_true]
    exact fin_keep0 ⟨rfl, true, frz_sc, fun _ => ⟨h3, hall⟩⟩

/-- Events. -/
structure Ev where
  kind : Int
  id : Int
  n : Nd
def evA (e : Ev) : AV := .agg [.sc (.int .i64 e.kind), .sc (.int .i64 e.id), .sc (.int .i64 e.n.id), .sc (.int .i64 e.n.rule), .sc (.int .i64 e.n.p), .sc (.int .i64 e.n.q), .sl false (e.n.c.map liA)]
def Ev.fine (e : Ev) : Prop := smI e.id ∧ smI e.n.id ∧ smI e.n.rule ∧ smI e.n.p ∧ smI e.n.q ∧ e.n.c.length ≤ 3 ∧ ∀ l ∈ e.n.c, l.fine

set_option maxHeartbeats 8000000 in
theorem call12 {st : List AO} {c : List Ev} : ACall Tryz.prog 12 [.sl false (c.map evA)] st (fun x s => s = st ∧ ∃ b : Bool, x = .sc (.bool b) ∧ (b = true → c.length ≤ 60 ∧ ∀ e ∈ c, e.fine)) := by
  refine acall_t t12 (by simp) ?_
  have bad : ∀ (E : Env) (st' : List AO), (∃ ext, st' = st ++ ext) → FinQ [.tmp 2] st (fun x s => s = st ∧ ∃ b : Bool, x = .sc (.bool b) ∧ (b = true → c.length ≤ 60 ∧ ∀ e ∈ c, e.fine)) .ret ((2, .sc (.bool false)) :: E) [] st' := by
    intro E st' hp
    refine fin_tmp (.inr rfl) (fin_pre hp ⟨rfl, false, ?_, (fun h => by cases h)⟩)
    simp only [g_cons, if_true, frz_sc]
  simp only [c12, k_seq, k_reg, o_nil, o_mov, p_some, a_bool, a_i64_0, wp_seq, wp_reg, wp_block, wp_loop, q_thenN, argE]
  refine loop_rule (fun (k : Nat) E st' => k ≤ c.length ∧ (∃ ext, st' = st ++ ext) ∧ E = [(0, .sl false (c.map evA)), (3, .sc (.int .i64 (k : Nat)))] ∧ ∀ e ∈ c.take k, e.fine) (fun k => c.length - k)
    0 [(0, .sl false (c.map evA)), (3, .sc (.int .i64 0))] (by simp only [SubE, g_cons, Nat.reduceEqDiff, Nat.succ_ne_zero, and_true, if_false, if_true]) ⟨Nat.zero_le _, ⟨[], by simp⟩, rfl, by simp⟩ ?_
  rintro k E st' ⟨hk, ⟨ext, rfl⟩, rfl, hall⟩
  simp only [c12l4, c12r0, List.length_map, k_call, k_seq, k_reg, k_some, o_nil, o_mov, o_bin, o_len, g_cons, p_some, a_tmp, wp_seq, wp_reg, q_thenN, binA, binInts, binI, slen, lenA, Nat.reduceEqDiff, Nat.succ_ne_zero, if_false, if_true]
  intro hlen0
  rw [wp_cond (v := decide (k < c.length)) (by simp only [dec_lt, g_cons, a_tmp, Nat.reduceEqDiff, Nat.succ_ne_zero, if_false, if_true])]
  refine ⟨fun h => ?_, fun h => ?_⟩
  · have hk1 : k < c.length := by simpa using h
    obtain ⟨e, ht, hmem⟩ := get_lt hk1
    have ht' : (c.map evA)[k]? = some (evA e) := get_map ht
    have hk2 : k < (c.map evA).length := by simpa using hk1
    simp only [evA] at ht'
    have hN : ∀ s : List AO, loadA s true 5 (.ep (.sl false (c.map evA)) 7 k 2) = some (.agg [.sc (.int .i64 e.n.id), .sc (.int .i64 e.n.rule), .sc (.int .i64 e.n.p), .sc (.int .i64 e.n.q), .sl false (e.n.c.map liA)]) := fun s => by rw [ld_sub (sz := 7) ht' rfl (by omega)]; rfl
    have hI : ∀ s : List AO, loadA s false 1 (.ep (.sl false (c.map evA)) 7 k 1) = some (.sc (.int .i64 e.id)) := fun s => by rw [ld_cell (sz := 7) ht' rfl]; rfl
    simp only [c12r1, hk1, List.length_map, hN, k_call, k_seq, k_some, o_mov, o_load, o_faddr, o_iaddr, o_alloc, g_cons, p_some, a_tmp, wp_seq, wp_reg, wp_skip, wp_block, q_thenN, evQ, slen, natA_nat, Nat.reduceEqDiff, Nat.succ_ne_zero, Nat.zero_add, if_false, if_true]
    rw [o_store (by simp only [g_cons, a_tmp, Nat.reduceEqDiff, Nat.succ_ne_zero, if_false, if_true]; rfl)]
    simp only [c12r2, k_call, k_seq, k_reg, k_some, o_nil, o_load, o_faddr, o_call, g_cons, p_some, p_none, a_tmp, a_fun, a_i64_3, a_i64_8, wp_seq, wp_reg, q_thenN, fn_call, evQ, List.map_cons, List.map_nil, Nat.reduceEqDiff, Nat.reduceAdd, Nat.succ_ne_zero, ld_ref, get_last, set_last, AV.cells?, List.length_cons, List.length_nil, Nat.zero_add, partA, List.getElem?_cons_zero, List.getElem?_cons_succ, List.drop_zero, List.drop_succ_cons, List.take_succ_cons, List.take_zero, putAt, List.nil_append, List.drop_nil, List.append_nil, Nat.le_refl, true_and, and_true, Bool.false_eq_true, if_false, if_true]
    refine call21.mono ?_
    rintro x s ⟨rfl, b, rfl, hb⟩
    simp only [k_call, k_some, o_grdM, o_mov, o_un, g_cons, p_some, a_tmp, evQ, Nat.reduceEqDiff, Nat.succ_ne_zero, if_false, if_true]
    have e0 := hk1
    cases b with
    | false =>
      simp only [k_call, k_seq, k_reg, k_some, k_tf, o_nil, o_grdM, Bool.not_false, o_mov, o_pick, g_cons, p_some, a_tmp, a_bool, q_thenN, Nat.reduceEqDiff, Nat.succ_ne_zero, if_false, if_true]
      rw [wp_cond (v := true) (by simp only [g_cons, a_tmp, Nat.reduceEqDiff, Nat.succ_ne_zero, if_false, if_true])]
      refine ⟨fun _ => ?_, (fun h => by cases h)⟩
      simp only [k_seq, k_reg, o_nil, o_mov, p_some, a_bool, wp_seq, wp_reg, wp_ret, q_thenN, q_thenR, q_blkR, q_nxtR]
      exact bad _ _ ⟨_, List.append_assoc ..⟩
    | true =>
    simp only [hk1, List.length_map, hI, k_call, k_some, k_ff, o_grdM, Bool.not_true, o_mov, o_load, o_faddr, o_iaddr, o_call, g_cons, p_some, a_tmp, a_fun, fn_call, evQ, slen, natA_nat, List.map_cons, List.map_nil, Nat.reduceEqDiff, Nat.succ_ne_zero, Nat.zero_add, if_false, if_true]
    refine call29.mono ?_
    rintro x s ⟨rfl, b, rfl, hb1⟩
    cases b with
    | false =>
      simp only [k_call, k_seq, k_reg, k_some, k_ff, k_tf, o_nil, o_grdM, Bool.not_false, o_mov, o_pick, o_un, g_cons, p_some, a_tmp, a_bool, q_thenN, evQ, Nat.reduceEqDiff, Nat.succ_ne_zero, Bool.false_eq_true, if_false, if_true]
      rw [wp_cond (v := true) (by simp only [g_cons, a_tmp, Nat.reduceEqDiff, Nat.succ_ne_zero, if_false, if_true])]
      refine ⟨fun _ => ?_, (fun h => by cases h)⟩
      simp only [k_seq, k_reg, o_nil, o_mov, p_some, a_bool, wp_seq, wp_reg, wp_ret, q_thenN, q_thenR, q_blkR, q_nxtR]
      exact bad _ _ ⟨_, List.append_assoc ..⟩
    | true =>
    simp only [k_call, k_some, k_ff, o_grdM, Bool.not_true, o_mov, o_pick, o_load, o_un, o_faddr, o_call, g_cons, p_some, a_tmp, a_fun, a_bool, fn_call, evQ, List.map_cons, List.map_nil, Nat.reduceEqDiff, Nat.reduceAdd, Nat.succ_ne_zero, ld_ref, get_last, List.length_cons, List.length_nil, Nat.zero_add, partA, List.getElem?_cons_zero, List.drop_zero, List.take_succ_cons, List.take_zero, Nat.reduceLeDiff, Bool.false_eq_true, if_false, if_true]
    refine call29.mono ?_
    rintro x s ⟨rfl, b, rfl, hb2⟩
    cases b with
    | false =>
      simp only [k_call, k_seq, k_reg, k_some, k_ff, k_tf, o_nil, o_grdM, Bool.not_false, o_mov, o_pick, o_un, g_cons, p_some, a_tmp, a_bool, q_thenN, evQ, Nat.reduceEqDiff, Nat.succ_ne_zero, Bool.false_eq_true, if_false, if_true]
      rw [wp_cond (v := true) (by simp only [g_cons, a_tmp, Nat.reduceEqDiff, Nat.succ_ne_zero, if_false, if_true])]
      refine ⟨fun _ => ?_, (fun h => by cases h)⟩
      simp only [k_seq, k_reg, o_nil, o_mov, p_some, a_bool, wp_seq, wp_reg, wp_ret, q_thenN, q_thenR, q_blkR, q_nxtR]
      exact bad _ _ ⟨_, List.append_assoc ..⟩
    | true =>
    simp only [k_call, k_some, k_ff, o_grdM, Bool.not_true, o_mov, o_pick, o_load, o_un, o_faddr, o_call, g_cons, p_some, a_tmp, a_fun, a_bool, fn_call, evQ, List.map_cons, List.map_nil, Nat.reduceEqDiff, Nat.reduceAdd, Nat.succ_ne_zero, ld_ref, get_last, List.length_cons, List.length_nil, Nat.zero_add, partA, List.getElem?_cons_zero, List.getElem?_cons_succ, List.drop_zero, List.drop_succ_cons, List.take_succ_cons, List.take_zero, Nat.reduceLeDiff, Bool.false_eq_true, if_false, if_true]
    refine call29.mono ?_
    rintro x s ⟨rfl, b, rfl, hb3⟩
    cases b with
    | false =>
      simp only [k_call, k_seq, k_reg, k_some, k_ff, k_tf, o_nil, o_grdM, Bool.not_false, o_mov, o_pick, o_un, g_cons, p_some, a_tmp, a_bool, q_thenN, evQ, Nat.reduceEqDiff, Nat.succ_ne_zero, Bool.false_eq_true, if_false, if_true]
      rw [wp_cond (v := true) (by simp only [g_cons, a_tmp, Nat.reduceEqDiff, Nat.succ_ne_zero, if_false, if_true])]
      refine ⟨fun _ => ?_, (fun h => by cases h)⟩
      simp only [k_seq, k_reg, o_nil, o_mov, p_some, a_bool, wp_seq, wp_reg, wp_ret, q_thenN, q_thenR, q_blkR, q_nxtR]
      exact bad _ _ ⟨_, List.append_assoc ..⟩
    | true =>
    simp only [k_call, k_some, k_ff, o_grdM, Bool.not_true, o_mov, o_pick, o_load, o_un, o_faddr, o_call, g_cons, p_some, a_tmp, a_fun, a_bool, fn_call, evQ, List.map_cons, List.map_nil, Nat.reduceEqDiff, Nat.reduceAdd, Nat.succ_ne_zero, ld_ref, get_last, List.length_cons, List.length_nil, Nat.zero_add, partA, List.getElem?_cons_zero, List.getElem?_cons_succ, List.drop_zero, List.drop_succ_cons, List.take_succ_cons, List.take_zero, Nat.reduceLeDiff, Bool.false_eq_true, if_false, if_true]
    refine call29.mono ?_
    rintro x s ⟨rfl, b, rfl, hb4⟩
    cases b with
    | false =>
      simp only [k_call, k_seq, k_reg, k_some, k_ff, k_tf, o_nil, o_grdM, Bool.not_false, o_mov, o_pick, o_un, g_cons, p_some, a_tmp, a_bool, q_thenN, evQ, Nat.reduceEqDiff, Nat.succ_ne_zero, Bool.false_eq_true, if_false, if_true]
      rw [wp_cond (v := true) (by simp only [g_cons, a_tmp, Nat.reduceEqDiff, Nat.succ_ne_zero, if_false, if_true])]
      refine ⟨fun _ => ?_, (fun h => by cases h)⟩
      simp only [k_seq, k_reg, o_nil, o_mov, p_some, a_bool, wp_seq, wp_reg, wp_ret, q_thenN, q_thenR, q_blkR, q_nxtR]
      exact bad _ _ ⟨_, List.append_assoc ..⟩
    | true =>
    simp only [k_call, k_some, k_ff, o_grdM, Bool.not_true, o_mov, o_pick, o_load, o_un, o_faddr, o_call, g_cons, p_some, a_tmp, a_fun, a_bool, fn_call, evQ, List.map_cons, List.map_nil, Nat.reduceEqDiff, Nat.reduceAdd, Nat.succ_ne_zero, ld_ref, get_last, List.length_cons, List.length_nil, Nat.zero_add, partA, List.getElem?_cons_zero, List.getElem?_cons_succ, List.drop_zero, List.drop_succ_cons, List.take_succ_cons, List.take_zero, Nat.reduceLeDiff, Bool.false_eq_true, if_false, if_true]
    refine call29.mono ?_
    rintro x s ⟨rfl, b, rfl, hb5⟩
    cases b with
    | false =>
      simp only [k_call, k_seq, k_reg, k_some, k_ff, o_nil, o_grdM, Bool.not_false, o_pick, o_un, g_cons, p_some, a_tmp, a_bool, q_thenN, evQ, Nat.reduceEqDiff, Nat.succ_ne_zero, Bool.false_eq_true, if_false, if_true]
      rw [wp_cond (v := true) (by simp only [g_cons, a_tmp, Nat.reduceEqDiff, Nat.succ_ne_zero, if_false, if_true])]
      refine ⟨fun _ => ?_, (fun h => by cases h)⟩
      simp only [k_seq, k_reg, o_nil, o_mov, p_some, a_bool, wp_seq, wp_reg, wp_ret, q_thenN, q_thenR, q_blkR, q_nxtR]
      exact bad _ _ ⟨_, List.append_assoc ..⟩
    | true =>
    simp only [k_call, k_seq, k_reg, k_some, k_ff, o_nil, o_grdM, Bool.not_true, o_pick, o_un, g_cons, p_some, a_tmp, a_bool, q_thenN, evQ, Nat.reduceEqDiff, Nat.succ_ne_zero, Bool.false_eq_true, if_false, if_true]
    rw [wp_cond (v := false) (by simp only [g_cons, a_tmp, Nat.reduceEqDiff, Nat.succ_ne_zero, if_false, if_true])]
    refine ⟨(fun h => by cases h), fun _ => ?_⟩
    have hkb : k < 9223372036854775807 := by have := hlen0 _ rfl; omega
    simp only [c12r3, wrap_succ hkb, k_call, k_seq, k_reg, k_some, o_nil, o_mov, o_bin, g_cons, p_some, a_tmp, a_i64_1, wp_reg, wp_skip, q_thenN, q_blkN, q_nxtN, binA, binInts, binI, Nat.reduceEqDiff, Nat.succ_ne_zero, true_and, if_false, if_true]
    refine ⟨_, (?_ : SubE [(0, _), (3, _)] _), k + 1, by omega, by omega, ⟨_, List.append_assoc ..⟩, rfl, fun l hl => ?_⟩
    · simp only [SubE, g_cons, Nat.reduceEqDiff, Nat.succ_ne_zero, and_true, if_false, if_true]
    · rw [take_succ ht] at hl
      rcases List.mem_append.1 hl with h | h
      · exact hall l h
      · simp only [List.mem_singleton] at h; subst h
        obtain ⟨g1, g2⟩ := hb rfl
        exact ⟨hb1 rfl, hb2 rfl, hb3 rfl, hb4 rfl, hb5 rfl, g1, g2⟩
  · have hk0 : k = c.length := by have : ¬ k < c.length := by simpa using h
                                  omega
    subst hk0
    rw [List.take_length] at hall
    simp only [c12r5, List.length_map, k_call, k_seq, k_reg, k_some, o_nil, o_mov, o_bin, o_len, g_cons, p_some, a_tmp, a_i64_60, wp_seq, wp_reg, wp_ret, wp_exit, q_thenN, q_thenE, q_blkE, q_nxtE, binA, binInts, binI, slen, lenA, Nat.reduceEqDiff, Nat.succ_ne_zero, if_false, if_true]
    intro _
    refine fin_tmp (.inr rfl) ?_
    simp only [g_cons, Nat.reduceEqDiff, Nat.succ_ne_zero, if_false, if_true]
    refine fin_pre ⟨_, rfl⟩ ⟨rfl, _, frz_sc, fun hb => ⟨?_, hall⟩⟩
    have : (c.length : Int) ≤ 60 := by simpa using hb
    omega
end Go.AW

/-
  Numbers, read.
-/
namespace Go.AW
open Go Go.RowKit Go.Proofs
set_option linter.unusedVariables false
set_option linter.unusedSimpArgs false
set_option maxRecDepth 100000

theorem fin_tmp3 {st st' : List AO} {a b c : Nat} {R : AV → List AO → Prop} {x : AX} {en : Env} (hx : x = .normal ∨ x = .ret) (h : Fin st R (.tup [en.get a, en.get b, en.get c]) st') : FinQ [.tmp a, .tmp b, .tmp c] st R x en [] st' := by
  rcases hx with rfl | rfl <;> exact h
theorem fin_tmp2 {st st' : List AO} {a b : Nat} {R : AV → List AO → Prop} {x : AX} {en : Env} (hx : x = .normal ∨ x = .ret) (h : Fin st R (.tup [en.get a, en.get b]) st') : FinQ [.tmp a, .tmp b] st R x en [] st' := by
  rcases hx with rfl | rfl <;> exact h

/-- A number's bytes, read: the number, how many bytes; or the error. -/
def uM : List UInt8 → Nat → Nat → Except Nat (Nat × Nat)
  | [], i, n => .error 10
  | c :: r, i, n => if i = 10 ∨ (i = 9 ∧ 1 < c.toNat) then .error 7 else
    if c.toNat < 128 then (if c.toNat = 0 ∧ 0 < i then .error 7 else .ok (n + c.toNat % 128 * 128 ^ i, i + 1))
    else uM r (i + 1) (n + c.toNat % 128 * 128 ^ i)
def uintR (bs : List UInt8) (a : Nat) : Except Nat (Nat × Nat) := match uM (bs.drop a) 0 0 with
  | .ok (n, k) => .ok (n, a + k)
  | .error e => .error e
def uintV : Except Nat (Nat × Nat) → AV
  | .ok (n, k) => .tup [.sc (.int .u64 n), .sc (.int .i64 k), .sc (.int .u8 0)]
  | .error e => .tup [.sc (.int .u64 0), .sc (.int .i64 0), .sc (.int .u8 e)]

theorem and127 : ∀ n, n < 256 → (BitVec.ofNat 8 n &&& ~~~ BitVec.ofNat 8 128).toNat % 256 = n % 128 := by decide
theorem and_u8 {c : UInt8} : IntKind.wrap .u8 ((BitVec.ofInt IntKind.u8.bits (c.toNat : Int) &&& ~~~ BitVec.ofInt IntKind.u8.bits 128).toNat : Int) = ((c.toNat % 128 : Nat) : Int) := by
  have h := and127 c.toNat c.toNat_lt
  rw [wrap_u8m]
  show (((BitVec.ofInt 8 (c.toNat : Int) &&& ~~~ BitVec.ofInt 8 128).toNat : Nat) : Int) % 256 = _
  rw [BitVec.ofInt_natCast, show BitVec.ofInt 8 128 = BitVec.ofNat 8 128 from rfl]
  omega
theorem or_u64 {n x k : Nat} (h : n < 2 ^ k) (h2 : n + x * 2 ^ k < 18446744073709551616) : IntKind.wrap .u64 ((BitVec.ofInt IntKind.u64.bits (n : Int) ||| BitVec.ofInt IntKind.u64.bits ((x * 2 ^ k : Nat) : Int)).toNat : Int) = ((n + x * 2 ^ k : Nat) : Int) := by
  have e64 : (2 : Nat) ^ 64 = 18446744073709551616 := by decide
  have h3 : (BitVec.ofNat 64 n ||| BitVec.ofNat 64 (x * 2 ^ k)).toNat = n + x * 2 ^ k := by
    rw [BitVec.toNat_or, BitVec.toNat_ofNat, BitVec.toNat_ofNat, e64, Nat.mod_eq_of_lt (by omega), Nat.mod_eq_of_lt (by omega)]
    have := Nat.two_pow_add_eq_or_of_lt h x
    rw [Nat.or_comm, Nat.mul_comm x, ← this]; omega
  rw [wrap_u64m]
  show (((BitVec.ofInt 64 (n : Int) ||| BitVec.ofInt 64 ((x * 2 ^ k : Nat) : Int)).toNat : Nat) : Int) % _ = _
  rw [BitVec.ofInt_natCast, BitVec.ofInt_natCast, h3]
  omega
theorem pow128 {k : Nat} : 128 ^ k = 2 ^ (7 * k) := by rw [Nat.pow_mul]
theorem uM_bound {k : Nat} (hk : k ≤ 9) {c : Nat} (hc : c < 128) (h9 : k = 9 → c ≤ 1) {n : Nat} (hn : n < 128 ^ k) : n + c * 128 ^ k < 18446744073709551616 ∧ n + c * 128 ^ k < 128 ^ (k + 1) := by
  have h2 : n + c * 128 ^ k < 128 ^ (k + 1) := by
    rw [Nat.pow_succ]
    have : c * 128 ^ k + 128 ^ k ≤ 128 * 128 ^ k := by
      have := Nat.mul_le_mul_right (128 ^ k) (show c + 1 ≤ 128 by omega)
      rw [Nat.add_mul] at this; omega
    rw [Nat.mul_comm (128 ^ k)]; omega
  refine ⟨?_, h2⟩
  by_cases h : k = 9
  · subst h
    have := h9 rfl
    have e : (128 : Nat) ^ 9 = 9223372036854775808 := by decide
    rw [e] at hn ⊢
    omega
  · have : 128 ^ (k + 1) ≤ 128 ^ 9 := Nat.pow_le_pow_right (by omega) (by omega)
    have e : (128 : Nat) ^ 9 = 9223372036854775808 := by decide
    omega

set_option maxHeartbeats 4000000 in
theorem call167 {st : List AO} {bs : List UInt8} {a : Nat} (ha : a ≤ bs.length) : ACall Tryz.prog 167 [bA bs, .sc (.int .i64 (a : Nat))] st (fun x s => x = uintV (uintR bs a) ∧ s = st) := by
  refine acall_t t167 (by simp) ?_
  have d0 : decide ((a : Int) < 0) = false := by simp
  simp only [c167, c167r0, c167r1, d0, bA, List.length_map, k_call, k_seq, k_reg, k_some, k_ff, o_nil, o_grdM, o_mov, o_pick, o_bin, o_len, g_cons, p_some, a_tmp, a_bool, a_i64_0, a_u8_0, a_u64_0, wp_seq, wp_reg, q_thenN, binA, binInts, binI, slen, lenA, argE, Nat.reduceEqDiff, Nat.succ_ne_zero, Nat.zero_add, Bool.false_eq_true, if_false, if_true]
  intro hL
  have hlen : bs.length ≤ 140737488355328 := hL _ rfl
  rw [wp_cond (v := decide ((a : Int) > (bs.length : Int))) (by simp only [g_cons, a_tmp, Nat.reduceEqDiff, Nat.succ_ne_zero, if_false, if_true])]
  have d1 : decide ((a : Int) > (bs.length : Int)) = false := by simp; omega
  simp only [d1]
  refine ⟨(fun h => by cases h), fun _ => ?_⟩
  simp only [c167r3, slcA_from (show a ≤ (bs.map u8A).length by simpa using ha), Option.isSome_some, Bool.true_and, k_seq, k_reg, o_nil, o_mov, o_slc, g_cons, p_some, a_tmp, a_u64_0, wp_seq, wp_reg, wp_skip, q_thenN, evQ, Nat.reduceEqDiff, Option.map_some, Option.map_none, Option.isSome_some, Nat.succ_ne_zero, if_false, if_true]
  have hal : ((bs.map u8A).all fun y => y.cells.length == 1) = true := List.all_eq_true.2 fun x hx => by simpa using u8_cells x hx
  simp only [hal, Bool.false_and, k_call, k_seq, k_reg, k_some, o_nil, Bool.not_true, o_mov, o_len, g_cons, p_some, a_tmp, a_i64_0, wp_block, wp_loop, q_thenN, slen, lenA, Nat.reduceEqDiff, Nat.succ_ne_zero, Bool.false_eq_true, if_false, if_true]
  intro _
  have hdm : (bs.map u8A).drop a = (bs.drop a).map u8A := List.map_drop.symm
  have hdl : ((bs.map u8A).drop a).length = (bs.drop a).length := by simp
  have hdl2 : (bs.drop a).length = bs.length - a := by simp
  generalize hD : bs.drop a = D at hdm hdl hdl2
  rw [hdm]
  have hD2 : uintR bs a = match uM D 0 0 with
    | .ok (n, k) => .ok (n, a + k)
    | .error e => .error e := by unfold uintR; rw [hD]
  refine loop_rule (fun (q : Nat × Nat) E st' => q.1 ≤ D.length ∧ q.1 ≤ 10 ∧ q.2 < 128 ^ q.1 ∧ uM D 0 0 = uM (D.drop q.1) q.1 q.2 ∧ st' = st ∧ E = [(1, .sc (.int .i64 (a : Nat))), (7, .sc (.int .u64 (q.2 : Nat))), (20, .sl false (D.map u8A)), (21, .sc (.int .i64 (D.length : Nat))), (22, .sc (.int .i64 (q.1 : Nat)))]) (fun q => D.length - q.1)
    (0, 0) [(1, .sc (.int .i64 (a : Nat))), (7, .sc (.int .u64 0)), (20, .sl false (D.map u8A)), (21, .sc (.int .i64 (D.length : Nat))), (22, .sc (.int .i64 0))] (by simp only [SubE, List.length_map, g_cons, Nat.reduceEqDiff, Nat.succ_ne_zero, and_true, if_false, if_true]) ⟨Nat.zero_le _, by simp, by simp, rfl, rfl, rfl⟩ ?_
  rintro ⟨k, n⟩ E st' ⟨hk, hk10, hn, hu, rfl, rfl⟩
  simp only at hk hk10 hn hu ⊢
  have bad : ∀ (e : Nat), uM D 0 0 = .error e → FinQ [.tmp 4, .tmp 5, .tmp 6] st' (fun x s => x = uintV (uintR bs a) ∧ s = st') .ret = FinQ [.tmp 4, .tmp 5, .tmp 6] st' (fun x s => x = uintV (.error e) ∧ s = st') .ret := by
    intro e he
    rw [hD2, he]
  simp only [c167l11, k_call, k_seq, k_reg, k_some, o_nil, o_bin, g_cons, p_some, a_tmp, wp_seq, wp_reg, q_thenN, binA, binInts, binI, Nat.reduceEqDiff, if_false, if_true]
  rw [wp_cond (v := decide (k < D.length)) (by simp only [dec_lt, g_cons, a_tmp, Nat.reduceEqDiff, if_false, if_true])]
  refine ⟨fun h => ?_, fun h => ?_⟩
  · have hk1 : k < D.length := by simpa using h
    obtain ⟨c, ht, hmem⟩ := get_lt hk1
    have ht' : (D.map u8A)[k]? = some (.sc (.int .u8 c.toNat)) := get_map ht
    have hdr : D.drop k = c :: D.drop (k + 1) := by
      rw [List.drop_eq_getElem_cons hk1]
      have := List.getElem?_eq_getElem hk1
      rw [this] at ht; injection ht with ht; rw [ht]
    rw [hdr] at hu
    have hc256 := c.toNat_lt
    have fail : uM D 0 0 = .error 7 → ∀ E : Env, FinQ [.tmp 4, .tmp 5, .tmp 6] st' (fun x s => x = uintV (uintR bs a) ∧ s = st') .ret ((6, .sc (.int .u8 7)) :: (5, .sc (.int .i64 0)) :: (4, .sc (.int .u64 0)) :: E) [] st' := by
      intro he E
      rw [bad 7 he]
      refine fin_tmp3 (.inr rfl) ?_
      simp only [g_cons, Nat.reduceEqDiff, if_false, if_true]
      exact fin_keep0 ⟨rfl, rfl⟩
    simp only [c167r4, List.length_map, hk1, ld_one ht', k_call, k_seq, k_reg, k_some, o_nil, o_mov, o_load, o_iaddr, g_cons, p_some, a_tmp, wp_seq, wp_reg, wp_skip, wp_block, q_thenN, evQ, slen, natA_nat, Nat.reduceEqDiff, if_false, if_true]
    by_cases h10 : k = 10
    · have e1 : ((k : Int) == 10) = true := by simp; omega
      simp only [c167r5, e1, k_call, k_seq, k_reg, k_some, k_tf, k_un, o_nil, o_grdM, o_mov, o_pick, o_bin, g_cons, p_some, a_tmp, a_bool, a_i64_10, q_thenN, binA, binInts, binI, Nat.reduceEqDiff, if_false, if_true]
      rw [wp_cond (v := true) (by simp only [g_cons, a_tmp, Nat.reduceEqDiff, if_false, if_true])]
      refine ⟨fun _ => ?_, (fun h => by cases h)⟩
      simp only [c167r6, k_seq, k_reg, o_nil, o_mov, p_some, a_i64_0, a_u8_7, a_u64_0, wp_seq, wp_reg, wp_ret, q_thenN, q_thenR, q_blkR, q_nxtR]
      exact fail (by rw [hu]; simp [uM, h10]) _
    have e1 : ((k : Int) == 10) = false := by simp; omega
    by_cases h9c : k = 9 ∧ 1 < c.toNat
    · have e2 : ((k : Int) == 9) = true := by simp; omega
      have e3 : decide ((c.toNat : Int) > 1) = true := by simp; omega
      simp only [c167r5, e1, e2, e3, k_call, k_seq, k_reg, k_some, k_tt, k_ff, o_nil, o_grdM, o_mov, o_pick, o_bin, g_cons, p_some, a_tmp, a_bool, a_i64_9, a_i64_10, a_u8_1, q_thenN, binA, binInts, binI, Nat.reduceEqDiff, Bool.false_eq_true, if_false, if_true]
      rw [wp_cond (v := true) (by simp only [g_cons, a_tmp, Nat.reduceEqDiff, if_false, if_true])]
      refine ⟨fun _ => ?_, (fun h => by cases h)⟩
      simp only [c167r6, k_seq, k_reg, o_nil, o_mov, p_some, a_i64_0, a_u8_7, a_u64_0, wp_seq, wp_reg, wp_ret, q_thenN, q_thenR, q_blkR, q_nxtR]
      exact fail (by rw [hu]; simp [uM, h9c]) _
    have hb : ¬ (k = 10 ∨ (k = 9 ∧ 1 < c.toNat)) := by omega
    have hpow := uM_bound (show k ≤ 9 by omega) (show c.toNat % 128 < 128 by omega) (fun h => by omega) hn
    have hpow2 : n + c.toNat % 128 * 2 ^ (7 * k) < 128 ^ (k + 1) := by rw [← pow128]; exact hpow.2
    rw [pow128 (k := k)] at hpow
    have hn2 : n < 2 ^ (7 * k) := by rw [← pow128]; exact hn
    have w1 : IntKind.wrap .u64 ((c.toNat % 128 : Nat) : Int) = ((c.toNat % 128 : Nat) : Int) := wrap_u64 (by omega) (by omega)
    have w2 : IntKind.wrap .u64 (k : Int) = (k : Int) := wrap_u64 (by omega) (by omega)
    have w3 : IntKind.wrap .u64 (7 * (k : Int)) = ((7 * k : Nat) : Int) := by rw [wrap_u64 (by omega) (by omega)]; omega
    have w4 : shI .shl .u64 ((c.toNat % 128 : Nat) : Int) ((7 * k : Nat) : Int) = some (.sc (.int .u64 ((c.toNat % 128 * 2 ^ (7 * k) : Nat) : Int))) := by
      rw [shl_ok (show 7 * k ≤ IntKind.u64.bits by show 7 * k ≤ 64; omega)]
      have e : ((c.toNat % 128 : Nat) : Int) * 2 ^ (7 * k) = ((c.toNat % 128 * 2 ^ (7 * k) : Nat) : Int) := by
        rw [Int.natCast_mul, Int.natCast_pow]; rfl
      rw [e, wrap_u64 (by omega) (by omega)]
    have w5 := or_u64 hn2 hpow.1
    have w1' : IntKind.wrap .u64 ((c.toNat : Int) % 128) = ((c.toNat % 128 : Nat) : Int) := by rw [wrap_u64 (by omega) (by omega)]; omega
    obtain ⟨b9, e2, e3⟩ : ∃ b9, ((k : Int) == 9) = b9 ∧ (b9 = true → decide ((c.toNat : Int) > 1) = false) := ⟨_, rfl, fun h => by simp at h ⊢; omega⟩
    have hun : uM (c :: D.drop (k + 1)) k n = if c.toNat < 128 then (if c.toNat = 0 ∧ 0 < k then .error 7 else .ok (n + c.toNat % 128 * 2 ^ (7 * k), k + 1)) else uM (D.drop (k + 1)) (k + 1) (n + c.toNat % 128 * 2 ^ (7 * k)) := by
      simp only [uM, hb, if_false, pow128]
    rw [hun] at hu
    have hak : a + k + 1 ≤ bs.length := by omega
    cases b9 <;> (
      have e3' := e3
      simp only [c167r5, e1, e2, e3, k_call, k_seq, k_reg, k_some, k_tt, k_ff, k_ft, o_nil, o_grdM, o_mov, o_pick, o_bin, g_cons, p_some, a_tmp, a_bool, a_i64_9, a_i64_10, a_u8_1, q_thenN, binA, binInts, binI, Nat.reduceEqDiff, Bool.false_eq_true, if_false, if_true]
      rw [wp_cond (v := false) (by simp only [g_cons, a_tmp, Nat.reduceEqDiff, if_false, if_true])]
      refine ⟨(fun h => by cases h), fun _ => ?_⟩
      simp only [c167r7, and_u8, w1, w2, w3, w4, w5, k_call, k_seq, k_reg, k_some, o_nil, o_mov, o_bin, o_cvi, g_cons, p_some, a_tmp, a_u8_128, a_u64_7, wp_seq, wp_reg, wp_skip, q_thenN, evQ, binA, binInts, binI, Nat.reduceEqDiff, if_false, if_true]
      rw [wp_cond (v := decide (c.toNat < 128)) (by simp only [g_cons, a_tmp, Nat.reduceEqDiff, if_false, if_true]; congr 3; simp; omega)]
      refine ⟨fun h => ?_, fun h => ?_⟩
      · have hc : c.toNat < 128 := by simpa using h
        rw [if_pos hc] at hu
        by_cases hz : c.toNat = 0
        · have f1 : ((c.toNat : Int) == 0) = true := by simp; omega
          by_cases hk0 : 0 < k
          · have f2 : decide ((k : Int) > 0) = true := by simp; omega
            simp only [c167r8, f1, f2, k_call, k_seq, k_reg, k_some, k_tt, o_nil, o_grdM, o_mov, o_pick, o_bin, g_cons, p_some, a_tmp, a_bool, a_i64_0, a_u8_0, wp_seq, wp_reg, q_thenN, binA, binInts, binI, Nat.reduceEqDiff, if_false, if_true]
            rw [wp_cond (v := true) (by simp only [g_cons, a_tmp, Nat.reduceEqDiff, if_false, if_true])]
            refine ⟨fun _ => ?_, (fun h => by cases h)⟩
            simp only [c167r9, k_seq, k_reg, o_nil, o_mov, p_some, a_i64_0, a_u8_7, a_u64_0, wp_seq, wp_reg, wp_ret, q_thenN, q_thenR, q_blkR, q_nxtR]
            exact fail (by rw [hu, if_pos ⟨hz, hk0⟩]) _
          · have f2 : decide ((k : Int) > 0) = false := by simp; omega
            simp only [c167r8, f1, f2, k_call, k_seq, k_reg, k_some, k_tt, o_nil, o_grdM, o_mov, o_pick, o_bin, g_cons, p_some, a_tmp, a_bool, a_i64_0, a_u8_0, wp_seq, wp_reg, q_thenN, binA, binInts, binI, Nat.reduceEqDiff, if_false, if_true]
            rw [wp_cond (v := false) (by simp only [g_cons, a_tmp, Nat.reduceEqDiff, if_false, if_true])]
            refine ⟨(fun h => by cases h), fun _ => ?_⟩
            simp only [c167r10, k_call, k_seq, k_reg, k_some, o_nil, o_mov, o_bin, g_cons, p_some, a_tmp, a_i64_1, a_u8_0, wp_seq, wp_reg, wp_skip, wp_ret, q_thenN, q_thenR, q_blkR, q_nxtR, binA, binInts, binI, Nat.reduceEqDiff, if_false, if_true]
            rw [hD2, hu, if_neg (by omega)]
            refine fin_tmp3 (.inr rfl) ?_
            simp only [g_cons, Nat.reduceEqDiff, if_false, if_true]
            refine fin_keep0 ⟨?_, rfl⟩
            rw [wrap_i64 (n := (a : Int) + k) (by omega) (by omega), wrap_i64 (by omega) (by omega)]
            simp only [uintV, AV.frz, AV.frzV, List.map_cons, List.map_nil, frzC_sc]
            rfl
        · have f1 : ((c.toNat : Int) == 0) = false := by simp; omega
          simp only [c167r8, f1, k_call, k_seq, k_reg, k_some, k_ft, o_nil, o_grdM, o_mov, o_pick, o_bin, g_cons, p_some, a_tmp, a_bool, a_u8_0, wp_seq, wp_reg, q_thenN, binA, binInts, binI, Nat.reduceEqDiff, Bool.false_eq_true, if_false, if_true]
          rw [wp_cond (v := false) (by simp only [g_cons, a_tmp, Nat.reduceEqDiff, if_false, if_true])]
          refine ⟨(fun h => by cases h), fun _ => ?_⟩
          simp only [c167r10, k_call, k_seq, k_reg, k_some, o_nil, o_mov, o_bin, g_cons, p_some, a_tmp, a_i64_1, a_u8_0, wp_seq, wp_reg, wp_skip, wp_ret, q_thenN, q_thenR, q_blkR, q_nxtR, binA, binInts, binI, Nat.reduceEqDiff, if_false, if_true]
          rw [hD2, hu, if_neg (by omega)]
          refine fin_tmp3 (.inr rfl) ?_
          simp only [g_cons, Nat.reduceEqDiff, if_false, if_true]
          refine fin_keep0 ⟨?_, rfl⟩
          rw [wrap_i64 (n := (a : Int) + k) (by omega) (by omega), wrap_i64 (by omega) (by omega)]
          simp only [uintV, AV.frz, AV.frzV, List.map_cons, List.map_nil, frzC_sc]
          rfl
      · have hc : ¬ c.toNat < 128 := by simpa using h
        rw [if_neg hc] at hu
        simp only [wrap_succ (show k < 9223372036854775807 by omega), k_call, k_seq, k_reg, k_some, o_nil, o_mov, o_bin, g_cons, p_some, a_tmp, a_i64_1, wp_reg, wp_skip, q_thenN, q_blkN, q_nxtN, binA, binInts, binI, Nat.reduceEqDiff, true_and, if_false, if_true]
        refine ⟨_, (?_ : SubE [(1, _), (7, _), (20, _), (21, _), (22, _)] _), (k + 1, n + c.toNat % 128 * 2 ^ (7 * k)), by simp only; omega, by simp only; omega, by simp only; omega, hpow2, hu, rfl⟩
        simp only [SubE, g_cons, Nat.reduceEqDiff, and_true, if_false, if_true])
  · have hk0 : k = D.length := by have : ¬ k < D.length := by simpa using h
                                  omega
    subst hk0
    simp only [c167r12, k_seq, k_reg, o_nil, o_mov, p_some, a_i64_0, a_u8_10, a_u64_0, wp_seq, wp_reg, wp_ret, wp_exit, q_thenN, q_thenE, q_blkE, q_nxtE, if_true]
    rw [bad 10 (by rw [hu]; simp [uM])]
    refine fin_tmp3 (.inr rfl) ?_
    simp only [g_cons, Nat.reduceEqDiff, if_false, if_true]
    exact fin_keep0 ⟨rfl, rfl⟩
/-- The whole number of one from 0 on. -/
def zag (n : Nat) : Int := if n % 2 = 0 then (n / 2 : Nat) else -((n / 2 : Nat) : Int) - 1
theorem zag_zig {n : Int} : zag (zig n) = n := by
  unfold zag zig
  split <;> split <;> omega
theorem zig_zag {n : Nat} : zig (zag n) = n := by
  unfold zag zig
  split <;> split <;> omega
theorem zag_range {n : Nat} (h : n < 18446744073709551616) : -9223372036854775808 ≤ zag n ∧ zag n ≤ 9223372036854775807 := by
  unfold zag; split <;> omega
theorem xor_zag {n : Nat} (h : n < 18446744073709551616) : IntKind.wrap .i64 ((BitVec.ofInt IntKind.i64.bits ((n / 2 : Nat) : Int) ^^^ BitVec.ofInt IntKind.i64.bits (IntKind.wrap .i64 (0 - ((n % 2 : Nat) : Int)))).toNat : Int) = zag n := by
  have e64 : (2 : Nat) ^ 64 = 18446744073709551616 := by decide
  show IntKind.wrap .i64 (((BitVec.ofInt 64 ((n / 2 : Nat) : Int) ^^^ BitVec.ofInt 64 (IntKind.wrap .i64 (0 - ((n % 2 : Nat) : Int)))).toNat : Nat) : Int) = zag n
  rw [wrap_i64 (n := 0 - ((n % 2 : Nat) : Int)) (by omega) (by omega), BitVec.ofInt_natCast]
  by_cases h2 : n % 2 = 0
  · rw [h2, show BitVec.ofInt 64 (0 - ((0 : Nat) : Int)) = 0#64 from rfl, BitVec.xor_zero, BitVec.toNat_ofNat, e64, Nat.mod_eq_of_lt (by omega), wrap_i64 (by omega) (by omega)]
    simp only [zag, h2, if_true]
  · have h1 : n % 2 = 1 := by omega
    rw [h1, show BitVec.ofInt 64 (0 - ((1 : Nat) : Int)) = BitVec.allOnes 64 from rfl, BitVec.xor_allOnes, BitVec.toNat_not, BitVec.toNat_ofNat, e64, Nat.mod_eq_of_lt (by omega)]
    have e : (2 : Int) ^ 64 = 18446744073709551616 := by decide
    have e2 : (2 : Int) ^ (64 - 1) = 9223372036854775808 := by decide
    simp only [IntKind.wrap, IntKind.bits, IntKind.signed, e, e2, Bool.true_and, decide_eq_true_eq, zag, h2, if_false]
    split <;> omega

theorem uM_lt : ∀ {bs : List UInt8} {i n : Nat} {v k : Nat}, i ≤ 10 → n < 128 ^ i → uM bs i n = .ok (v, k) → v < 18446744073709551616 ∧ i < k ∧ k ≤ i + bs.length
  | [], i, n, v, k, _, _, h => by simp [uM] at h
  | c :: r, i, n, v, k, hi, hn, h => by
    have hc256 := c.toNat_lt
    simp only [uM] at h
    split at h
    · cases h
    · rename_i hb
      have hpow := uM_bound (show i ≤ 9 by omega) (show c.toNat % 128 < 128 by omega) (fun h => by omega) hn
      split at h
      · split at h
        · cases h
        · injection h with h; injection h with h1 h2
          subst h1; subst h2
          exact ⟨hpow.1, by omega, by simp⟩
      · have := uM_lt (by omega) hpow.2 h
        exact ⟨this.1, by omega, by simp only [List.length_cons]; omega⟩

def intR (bs : List UInt8) (a : Nat) : Except Nat (Int × Nat) := match uintR bs a with
  | .ok (n, k) => .ok (zag n, k)
  | .error e => .error e
def intV : Except Nat (Int × Nat) → AV
  | .ok (n, k) => .tup [.sc (.int .i64 n), .sc (.int .i64 k), .sc (.int .u8 0)]
  | .error e => .tup [.sc (.int .i64 0), .sc (.int .i64 0), .sc (.int .u8 e)]

theorem uintR_lt {bs : List UInt8} {a v k : Nat} (ha : a ≤ bs.length) (h : uintR bs a = .ok (v, k)) : v < 18446744073709551616 ∧ a < k ∧ k ≤ bs.length := by
  unfold uintR at h
  split at h
  · rename_i n q hu
    injection h with h; injection h with h1 h2
    subst h1; subst h2
    have := uM_lt (by omega) (by simp) hu
    rw [List.length_drop] at this
    exact ⟨this.1, by omega, by omega⟩
  · cases h

theorem call170 {st : List AO} {bs : List UInt8} {a : Nat} (ha : a ≤ bs.length) : ACall Tryz.prog 170 [bA bs, .sc (.int .i64 (a : Nat))] st (fun x s => x = intV (intR bs a) ∧ s = st) := by
  refine acall_t t170 (by simp) ?_
  simp only [c170, c170r0, c170r1, k_seq, k_reg, o_nil, o_mov, o_call, g_cons, p_some, a_tmp, a_fun, a_i64_0, a_u8_0, wp_seq, wp_reg, q_thenN, fn_call, argE, List.map_cons, List.map_nil, Nat.reduceEqDiff, Nat.succ_ne_zero, Nat.zero_add, if_false, if_true]
  refine (call167 ha).mono ?_
  rintro x st ⟨rfl, rfl⟩
  have key : ∀ (n : Nat) (k e : Int) (E : Env), n < 18446744073709551616 → FinQ [.tmp 4, .tmp 5, .tmp 6] st (fun x s => x = .tup [.sc (.int .i64 (zag n)), .sc (.int .i64 k), .sc (.int .u8 e)] ∧ s = st) .ret
      ((6, .sc (.int .u8 e)) :: (5, .sc (.int .i64 k)) :: (4, .sc (.int .i64 (zag n))) :: E) [] st := by
    intro n k e E _
    refine fin_tmp3 (.inr rfl) ?_
    simp only [g_cons, Nat.reduceEqDiff, if_false, if_true]
    refine fin_keep0 ⟨?_, rfl⟩
    simp only [AV.frz, AV.frzV, List.map_cons, List.map_nil, frzC_sc]
  have ops : ∀ n : Nat, n < 18446744073709551616 → shI .shr .u64 (n : Int) 1 = some (.sc (.int .u64 ((n / 2 : Nat) : Int))) ∧ IntKind.wrap .i64 ((n / 2 : Nat) : Int) = ((n / 2 : Nat) : Int) ∧
      IntKind.wrap .i64 (IntKind.wrap .u64 ((BitVec.ofInt IntKind.u64.bits (n : Int) &&& BitVec.ofInt IntKind.u64.bits 1).toNat : Int)) = ((n % 2 : Nat) : Int) := by
    intro n hn
    refine ⟨?_, wrap_i64 (by omega) (by omega), ?_⟩
    · have := shr_ok (k := .u64) (a := (n : Int)) (b := 1) (by decide)
      rw [show ((1 : Nat) : Int) = 1 from rfl] at this
      rw [this, show ((2 : Int) ^ 1) = ((2 : Nat) : Int) from rfl, Int.fdiv_eq_ediv_of_nonneg _ (by omega)]
      congr 3
    · have e64 : (2 : Nat) ^ 64 = 18446744073709551616 := by decide
      have h3 : (BitVec.ofNat 64 n &&& BitVec.ofNat 64 1).toNat = n % 2 := by
        rw [BitVec.toNat_and, BitVec.toNat_ofNat, BitVec.toNat_ofNat, e64, Nat.mod_eq_of_lt hn, Nat.mod_eq_of_lt (by omega), Nat.and_one_is_mod]
      show IntKind.wrap .i64 (IntKind.wrap .u64 (((BitVec.ofInt 64 (n : Int) &&& BitVec.ofInt 64 1).toNat : Nat) : Int)) = _
      rw [BitVec.ofInt_natCast, show BitVec.ofInt 64 1 = BitVec.ofNat 64 1 from rfl, h3, wrap_u64 (by omega) (by omega), wrap_i64 (by omega) (by omega)]
  cases hu : uintR bs a with
  | error e =>
    obtain ⟨o1, o2, o3⟩ := ops 0 (by omega)
    have o4 := xor_zag (n := 0) (by omega)
    have e0 : uintV (.error e) = .tup [.sc (.int .u64 ((0 : Nat) : Int)), .sc (.int .i64 0), .sc (.int .u8 e)] := rfl
    rw [e0]
    simp only [c170r2, o1, o2, o3, o4, intR, hu, intV, List.getElem?_cons_zero, List.getElem?_cons_succ, k_call, k_seq, k_reg, k_some, o_nil, o_mov, o_bin, o_un, o_cvi, o_ext, g_cons, p_some, a_tmp, a_u64_1, wp_seq, wp_reg, wp_ret, q_thenN, evQ, binA, binInts, binI, Nat.reduceEqDiff, Nat.succ_ne_zero, List.getElem?_cons_zero, List.getElem?_cons_succ, if_false, if_true]
    exact key 0 0 e _ (by omega)
  | ok q =>
    obtain ⟨n, k⟩ := q
    have hn := (uintR_lt ha hu).1
    obtain ⟨o1, o2, o3⟩ := ops n hn
    have o4 := xor_zag hn
    simp only [uintV, c170r2, o1, o2, o3, o4, intR, hu, intV, List.getElem?_cons_zero, List.getElem?_cons_succ, k_call, k_seq, k_reg, k_some, o_nil, o_mov, o_bin, o_un, o_cvi, o_ext, g_cons, p_some, a_tmp, a_u64_1, wp_seq, wp_reg, wp_ret, q_thenN, evQ, binA, binInts, binI, Nat.reduceEqDiff, Nat.succ_ne_zero, List.getElem?_cons_zero, List.getElem?_cons_succ, if_false, if_true]
    exact key n k 0 _ hn
end Go.AW

/-
  Readers: what they read, and how they stand then.
-/
namespace Go.AW
open Go Go.RowKit Go.Proofs
set_option linter.unusedVariables false
set_option linter.unusedSimpArgs false
set_option maxRecDepth 100000

/-- How a reader stands: where, and the first error. -/
structure RS where
  at_ : Nat
  e : Nat
def rdO (bs : List UInt8) (r : RS) : AO := .cells [bA bs, .sc (.int .i64 (r.at_ : Nat)), .sc (.int .u8 (r.e : Nat))]
/-- A call of a reader's method. -/
def RC (f : Nat) (bs : List UInt8) (args : List AV) (r : RS) (v : AV) (r' : RS) : Prop := ∀ (st : List AO) (i : Nat), i < st.length →
  ACall Tryz.prog f (.ref i 0 :: args) (st.set i (rdO bs r)) (fun x s => x = v ∧ s = st.set i (rdO bs r'))
section
variable {st B : List AO} {i : Nat} {o o' : AO}
theorem r_get (k : Nat) : (st.set i o ++ B)[st.length + k]? = B[k]? := by
  rw [List.getElem?_append_right (by simp)]; simp
theorem r_get0 : (st.set i o ++ B)[st.length]? = B[0]? := r_get 0
theorem r_set (k : Nat) : (st.set i o ++ B).set (st.length + k) o' = st.set i o ++ B.set k o' := by
  rw [List.set_append_right _ _ (by simp)]; simp
theorem r_set0 : (st.set i o ++ B).set st.length o' = st.set i o ++ B.set 0 o' := r_set 0
theorem r_getI (hi : i < st.length) : (st.set i o ++ B)[i]? = some o := by
  rw [List.getElem?_append_left (by simpa using hi), List.getElem?_set_self hi]
theorem r_setI (hi : i < st.length) : (st.set i o ++ B).set i o' = st.set i o' ++ B := by
  rw [List.set_append_left _ _ (by simpa using hi), List.set_set]
theorem r_getJ (hi : i < st.length) : (st.set i o)[i]? = some o := List.getElem?_set_self hi
theorem r_setJ : (st.set i o).set i o' = st.set i o' := List.set_set ..
theorem r_app (hi : i < st.length) : st.set i o ++ B = (st ++ B).set i o := by rw [List.set_append_left _ _ hi]
theorem RC.at {f : Nat} {bs : List UInt8} {args : List AV} {r r' : RS} {v : AV} (h : RC f bs args r v r') (hi : i < st.length) :
    ACall Tryz.prog f (.ref i 0 :: args) (st.set i (rdO bs r) ++ B) (fun x s => x = v ∧ s = st.set i (rdO bs r') ++ B) := by
  rw [r_app hi, r_app hi]
  exact h (st ++ B) i (by simp; omega)
theorem rdO_ok {bs : List UInt8} {r : RS} {m : Nat} : (rdO bs r).ok m := by simp [rdO, AO.ok, AV.okL, AV.ok, bA]
theorem fin_r {bs : List UInt8} {r r' : RS} {R : AV → List AO → Prop} {x : AV} (h : R (x.frz (st.set i (rdO bs r') ++ B) st.length) (st.set i (rdO bs r'))) : Fin (st.set i (rdO bs r)) R x (st.set i (rdO bs r') ++ B) := by
  refine ⟨st.length, by simp, by simp, .inr fun j q hj hq => ?_, .inl ?_⟩
  · rw [List.getElem?_append_left (by simpa using hj)] at hq
    by_cases hji : j = i
    · subst hji
      rw [List.getElem?_set_self hj] at hq; injection hq with hq; subst hq
      exact .inr rdO_ok
    · rw [List.getElem?_set_ne (Ne.symm hji)] at hq ⊢
      exact .inl hq
  · rw [List.take_append_of_le_length (by simp), List.take_of_length_le (by simp)]; exact h
theorem fin_rN {bs : List UInt8} {r r' : RS} {R : AV → List AO → Prop} {x : AV} (h : R (x.frz (st.set i (rdO bs r') ++ B) st.length).nrmT (st.set i (rdO bs r'))) : Fin (st.set i (rdO bs r)) R x (st.set i (rdO bs r') ++ B) := by
  refine ⟨st.length, by simp, by simp, .inr fun j q hj hq => ?_, .inr ?_⟩
  · rw [List.getElem?_append_left (by simpa using hj)] at hq
    by_cases hji : j = i
    · subst hji
      rw [List.getElem?_set_self hj] at hq; injection hq with hq; subst hq
      exact .inr rdO_ok
    · rw [List.getElem?_set_ne (Ne.symm hji)] at hq ⊢
      exact .inl hq
  · rw [List.take_append_of_le_length (by simp), List.take_of_length_le (by simp)]; exact h
theorem fin_r0 {bs : List UInt8} {r r' : RS} {R : AV → List AO → Prop} {x : AV} (h : R (x.frz (st.set i (rdO bs r')) st.length) (st.set i (rdO bs r'))) : Fin (st.set i (rdO bs r)) R x (st.set i (rdO bs r')) := by
  have := fin_r (st := st) (i := i) (B := []) (bs := bs) (r := r) (r' := r') (R := R) (x := x) (by simpa using h)
  simpa using this
end

theorem u8ne {e : Nat} : ((e : Int) != 0) = decide (e ≠ 0) := by
  by_cases h : e = 0
  · subst h; rfl
  · have : (e : Int) ≠ 0 := by omega
    simp [h]
theorem u8eq {e : Nat} : ((e : Int) == 0) = decide (e = 0) := by
  by_cases h : e = 0
  · subst h; rfl
  · have : (e : Int) ≠ 0 := by omega
    simp [h]

theorem call168 {bs : List UInt8} {r : RS} {next e : Nat} {ok : Bool} (hr : r.e = 0) :
    RC 168 bs [.sc (.int .i64 (next : Nat)), .sc (.int .u8 (e : Nat)), .sc (.bool ok)] r (.sc (.bool (decide (e = 0) && ok))) (if e ≠ 0 then ⟨r.at_, e⟩ else if ok = true then ⟨next, 0⟩ else ⟨r.at_, 7⟩) := by
  intro st i hi
  obtain ⟨at0, e0⟩ := r
  simp only at hr; subst hr
  refine acall_t t168 (by simp) ?_
  simp only [c168, c168r0, u8ne, k_call, k_seq, k_reg, k_some, o_nil, o_mov, o_bin, g_cons, p_some, a_tmp, a_bool, a_u8_0, wp_seq, wp_reg, wp_block, q_thenN, binA, binInts, binI, argE, Nat.reduceEqDiff, Nat.reduceAdd, Nat.succ_ne_zero, Nat.zero_add, if_false, if_true]
  rw [wp_cond (v := decide (e ≠ 0)) (by simp only [g_cons, a_tmp, Nat.reduceEqDiff, Nat.succ_ne_zero, if_false, if_true])]
  refine ⟨fun h => ?_, fun h => ?_⟩
  · have he : e ≠ 0 := by simpa using h
    simp only [c168r1, k_call, k_some, o_mov, o_nilck, o_faddr, g_cons, p_some, a_tmp, wp_reg, evQ, Nat.reduceEqDiff, Nat.succ_ne_zero, Nat.zero_add, if_false, if_true]
    rw [o_store (by simp only [g_cons, a_tmp, Nat.reduceEqDiff, Nat.succ_ne_zero, if_false, if_true]; rfl)]
    simp only [r_getJ hi, r_setJ, rdO, c168r5, u8eq, he, decide_false, Bool.false_and, ne_eq, not_false_eq_true, k_call, k_seq, k_reg, k_some, o_nil, o_mov, o_load, o_nilck, o_bin, o_faddr, g_cons, p_some, p_none, a_tmp, a_u8_0, wp_seq, wp_reg, wp_ret, q_thenN, q_blkN, evQ, binA, binInts, binI, Nat.reduceEqDiff, Nat.reduceAdd, Nat.succ_ne_zero, ld_ref, AV.cells?, List.length_cons, List.length_nil, Nat.zero_add, partA, List.getElem?_cons_zero, List.getElem?_cons_succ, List.drop_zero, List.drop_succ_cons, List.take_succ_cons, List.take_zero, putAt, List.nil_append, List.cons_append, List.drop_nil, List.append_nil, Nat.le_refl, true_and, and_true, Bool.false_eq_true, if_false, if_true]
    refine fin_tmp (.inr rfl) ?_
    simp only [g_cons, Nat.reduceEqDiff, Nat.succ_ne_zero, if_false, if_true]
    refine fin_r0 (bs := bs) (r := ⟨at0, 0⟩) (r' := ⟨at0, e⟩) ?_
    exact ⟨frz_sc, rfl⟩
  · have he : e = 0 := by simpa using h
    subst he
    simp only [c168r2, k_call, k_seq, k_reg, k_some, o_nil, o_mov, o_un, g_cons, p_some, a_tmp, wp_seq, wp_reg, q_thenN, evQ, Nat.reduceEqDiff, Nat.succ_ne_zero, if_false, if_true]
    rw [wp_cond (v := !ok) (by simp only [g_cons, a_tmp, Nat.reduceEqDiff, Nat.succ_ne_zero, if_false, if_true])]
    cases ok with
    | false =>
      refine ⟨fun _ => ?_, (fun h => by cases h)⟩
      simp only [c168r3, k_call, k_some, Bool.not_false, o_mov, o_nilck, o_faddr, g_cons, p_some, a_tmp, wp_reg, evQ, Nat.reduceEqDiff, Nat.succ_ne_zero, Nat.zero_add, Bool.false_eq_true, if_false, if_true]
      rw [o_store (by simp only [g_cons, a_tmp, Nat.reduceEqDiff, Nat.succ_ne_zero, if_false, if_true]; rfl)]
      simp only [r_getJ hi, r_setJ, rdO, c168r5, ne_eq, not_true_eq_false, k_call, k_seq, k_reg, k_some, o_nil, o_mov, o_load, o_nilck, o_bin, o_faddr, g_cons, p_some, p_none, a_tmp, a_u8_0, a_u8_7, wp_seq, wp_reg, wp_ret, q_thenN, q_blkN, evQ, binA, binInts, binI, Nat.reduceEqDiff, Nat.reduceAdd, Nat.succ_ne_zero, ld_ref, AV.cells?, List.length_cons, List.length_nil, Nat.zero_add, partA, List.getElem?_cons_zero, List.getElem?_cons_succ, List.drop_zero, List.drop_succ_cons, List.take_succ_cons, List.take_zero, putAt, List.nil_append, List.cons_append, List.drop_nil, List.append_nil, Nat.le_refl, true_and, and_true, Bool.false_eq_true, if_false, if_true]
      refine fin_tmp (.inr rfl) ?_
      simp only [g_cons, Nat.reduceEqDiff, Nat.succ_ne_zero, if_false, if_true]
      refine fin_r0 (bs := bs) (r := ⟨at0, 0⟩) (r' := ⟨at0, 7⟩) ?_
      exact ⟨frz_sc, rfl⟩
    | true =>
      refine ⟨(fun h => by cases h), fun _ => ?_⟩
      simp only [c168r4, k_call, k_some, Bool.not_true, o_mov, o_nilck, o_faddr, g_cons, p_some, a_tmp, wp_reg, evQ, Nat.reduceEqDiff, Nat.succ_ne_zero, Nat.zero_add, if_false, if_true]
      rw [o_store (by simp only [g_cons, a_tmp, Nat.reduceEqDiff, Nat.succ_ne_zero, if_false, if_true]; rfl)]
      simp only [r_getJ hi, r_setJ, rdO, c168r5, ne_eq, not_true_eq_false, k_call, k_seq, k_reg, k_some, o_nil, o_mov, o_load, o_nilck, o_bin, o_faddr, g_cons, p_some, p_none, a_tmp, a_u8_0, wp_seq, wp_reg, wp_ret, q_thenN, q_blkN, evQ, binA, binInts, binI, Nat.reduceEqDiff, Nat.reduceAdd, Nat.succ_ne_zero, ld_ref, AV.cells?, List.length_cons, List.length_nil, Nat.zero_add, partA, List.getElem?_cons_zero, List.getElem?_cons_succ, List.drop_zero, List.drop_succ_cons, List.take_succ_cons, List.take_zero, putAt, List.nil_append, List.cons_append, Nat.reduceLeDiff, Nat.le_refl, true_and, and_true, Bool.false_eq_true, if_false, if_true]
      refine fin_tmp (.inr rfl) ?_
      simp only [g_cons, Nat.reduceEqDiff, Nat.succ_ne_zero, if_false, if_true]
      refine fin_r0 (bs := bs) (r := ⟨at0, 0⟩) (r' := ⟨next, 0⟩) ?_
      exact ⟨frz_sc, rfl⟩

def countR (bs : List UInt8) (most : Nat) (r : RS) : Nat × RS := if r.e ≠ 0 then (0, r) else match uintR bs r.at_ with
  | .error e => (0, ⟨r.at_, e⟩)
  | .ok (n, k) => if n ≤ most then (n, ⟨k, 0⟩) else (0, ⟨r.at_, 7⟩)
def numR (bs : List UInt8) (r : RS) : Int × RS := if r.e ≠ 0 then (0, r) else match intR bs r.at_ with
  | .error e => (0, ⟨r.at_, e⟩)
  | .ok (n, k) => if -2147483648 ≤ n ∧ n ≤ 2147483647 then (n, ⟨k, 0⟩) else (0, ⟨r.at_, 7⟩)
def RS.ok (bs : List UInt8) (r : RS) : Prop := r.at_ ≤ bs.length

theorem uM_err : ∀ {bs : List UInt8} {i n e : Nat}, uM bs i n = .error e → e = 7 ∨ e = 10
  | [], i, n, e, h => by simp [uM] at h; omega
  | c :: r, i, n, e, h => by
    simp only [uM] at h
    split at h
    · injection h with h; omega
    · split at h
      · split at h
        · injection h with h; omega
        · cases h
      · exact uM_err h
theorem uintR_err {bs : List UInt8} {a e : Nat} (h : uintR bs a = .error e) : e = 7 ∨ e = 10 := by
  unfold uintR at h
  split at h
  · cases h
  · rename_i e' he
    injection h with h; subst h
    exact uM_err he
theorem intR_err {bs : List UInt8} {a e : Nat} (h : intR bs a = .error e) : e = 7 ∨ e = 10 := by
  unfold intR at h
  split at h
  · cases h
  · rename_i e' he
    injection h with h; subst h
    exact uintR_err he
theorem intR_lt {bs : List UInt8} {a : Nat} {v : Int} {k : Nat} (ha : a ≤ bs.length) (h : intR bs a = .ok (v, k)) : (-9223372036854775808 ≤ v ∧ v ≤ 9223372036854775807) ∧ a < k ∧ k ≤ bs.length := by
  unfold intR at h
  split at h
  · rename_i n q hu
    injection h with h; injection h with h1 h2
    subst h1; subst h2
    have := uintR_lt ha hu
    exact ⟨zag_range this.1, this.2⟩
  · cases h

set_option maxHeartbeats 1000000 in
theorem call115 {bs : List UInt8} {most : Nat} {r : RS} (hr : r.ok bs) (hm : most ≤ 1048576) :
    RC 115 bs [.sc (.int .u64 (most : Nat))] r (.sc (.int .i64 ((countR bs most r).1 : Nat))) (countR bs most r).2 := by
  intro st i hi
  obtain ⟨at0, e0⟩ := r
  refine acall_t t115 (by simp) ?_
  simp only [c115, c115r0, r_getJ hi, rdO, u8ne, k_call, k_seq, k_reg, k_some, o_nil, o_mov, o_load, o_nilck, o_bin, o_faddr, g_cons, p_some, a_tmp, a_i64_0, a_u8_0, wp_seq, wp_reg, q_thenN, evQ, binA, binInts, binI, argE, Nat.reduceEqDiff, Nat.reduceAdd, Nat.succ_ne_zero, ld_ref, List.length_cons, List.length_nil, Nat.zero_add, partA, List.getElem?_cons_zero, List.getElem?_cons_succ, List.drop_zero, List.drop_succ_cons, List.take_succ_cons, List.take_zero, Nat.le_refl, Bool.false_eq_true, if_false, if_true]
  rw [wp_cond (v := decide (e0 ≠ 0)) (by simp only [g_cons, a_tmp, Nat.reduceEqDiff, Nat.succ_ne_zero, if_false, if_true])]
  refine ⟨fun h => ?_, fun h => ?_⟩
  · have he : e0 ≠ 0 := by simpa using h
    simp only [k_seq, k_reg, o_nil, o_mov, p_some, a_i64_0, wp_seq, wp_reg, wp_ret, q_thenN, q_thenR]
    refine fin_tmp (.inr rfl) ?_
    simp only [countR, he, ne_eq, not_false_eq_true, g_cons, Nat.reduceEqDiff, Nat.succ_ne_zero, if_false, if_true]
    refine fin_r0 (bs := bs) (r := ⟨at0, e0⟩) (r' := ⟨at0, e0⟩) ?_
    exact ⟨frz_sc, rfl⟩
  · have he : e0 = 0 := by simpa using h
    subst he
    simp only [c115d1, r_getJ hi, k_drw, wp_draw, d_mov, d_nilck, d_faddr, d_load, k_seq, k_some, g_cons, p_some, a_tmp, wp_seq, wp_skip, q_thenN, evQ, Nat.reduceEqDiff, Nat.reduceAdd, Nat.succ_ne_zero, ld_ref, List.length_cons, List.length_nil, Nat.zero_add, partA, List.getElem?_cons_zero, List.getElem?_cons_succ, List.drop_zero, List.drop_succ_cons, List.take_succ_cons, List.take_zero, Nat.reduceLeDiff, Bool.false_eq_true, if_false, if_true]
    refine d_call2 (x := uintV (uintR bs at0)) (st' := st.set i (AO.cells [bA bs, AV.sc (Value.int IntKind.i64 at0), AV.sc (Value.int IntKind.u8 (0 : Nat))])) (by simp only [g_cons, a_tmp, a_fun, fn_call, List.map_cons, List.map_nil, Nat.reduceEqDiff, Nat.succ_ne_zero, if_false, if_true]; exact call167 hr) (fun p hp => by cases hp) ?_
    cases hu : uintR bs at0 with
    | error e =>
      have hee := uintR_err hu
      have he : e ≠ 0 := by omega
      simp only [uintV, c115r2, List.getElem?_cons_zero, List.getElem?_cons_succ, k_drw, d_nil, d_mov, d_ext, k_call, k_seq, k_reg, k_some, o_mov, o_bin, o_call, g_cons, p_some, a_tmp, a_fun, wp_seq, wp_reg, q_thenN, fn_call, evQ, binA, binInts, binI, List.map_cons, List.map_nil, Nat.reduceEqDiff, Nat.succ_ne_zero, List.getElem?_cons_zero, List.getElem?_cons_succ, if_false, if_true]
      refine (call168 (bs := bs) (r := ⟨at0, 0⟩) (next := 0) (e := e) rfl st i hi).mono ?_
      rintro x s ⟨rfl, rfl⟩
      have hd : decide (e = 0) = false := by simpa using he
      simp only [Bool.false_and, decide_false, he, ne_eq, not_false_eq_true, k_call, k_seq, k_reg, k_some, o_nil, Bool.not_false, o_un, g_cons, p_some, a_tmp, q_thenN, evQ, Nat.reduceEqDiff, Nat.succ_ne_zero, if_false, if_true]
      rw [wp_cond (v := true) (by simp only [g_cons, a_tmp, Nat.reduceEqDiff, Nat.succ_ne_zero, if_false, if_true])]
      refine ⟨fun _ => ?_, (fun h => by cases h)⟩
      simp only [k_seq, k_reg, o_nil, o_mov, p_some, a_i64_0, wp_seq, wp_reg, wp_ret, q_thenN, q_thenR]
      refine fin_tmp (.inr rfl) ?_
      simp only [countR, hu, ne_eq, not_true_eq_false, g_cons, Nat.reduceEqDiff, Nat.succ_ne_zero, if_false, if_true]
      refine fin_r0 (bs := bs) (r := ⟨at0, 0⟩) (r' := ⟨at0, e⟩) ?_
      exact ⟨frz_sc, rfl⟩
    | ok q =>
      obtain ⟨n, k⟩ := q
      have hn := uintR_lt hr hu
      simp only at hn
      simp only [uintV, c115r2, List.getElem?_cons_zero, List.getElem?_cons_succ, k_drw, d_nil, d_mov, d_ext, k_call, k_seq, k_reg, k_some, o_mov, o_bin, o_call, g_cons, p_some, a_tmp, a_fun, wp_seq, wp_reg, q_thenN, fn_call, evQ, binA, binInts, binI, List.map_cons, List.map_nil, Nat.reduceEqDiff, Nat.succ_ne_zero, List.getElem?_cons_zero, List.getElem?_cons_succ, if_false, if_true]
      refine (call168 (bs := bs) (r := ⟨at0, 0⟩) (next := k) (e := 0) rfl st i hi).mono ?_
      rintro x s ⟨rfl, rfl⟩
      by_cases hle : n ≤ most
      · have hd : decide ((n : Int) ≤ (most : Int)) = true := by simpa using hle
        simp only [hd, decide_true, Bool.true_and, ne_eq, not_true_eq_false, k_call, k_seq, k_reg, k_some, o_nil, Bool.not_true, o_un, g_cons, p_some, a_tmp, q_thenN, evQ, Nat.reduceEqDiff, Nat.succ_ne_zero, if_false, if_true]
        rw [wp_cond (v := false) (by simp only [g_cons, a_tmp, Nat.reduceEqDiff, Nat.succ_ne_zero, if_false, if_true])]
        refine ⟨(fun h => by cases h), fun _ => ?_⟩
        simp only [c115r3, k_call, k_seq, k_reg, k_some, o_nil, o_mov, o_cvi, g_cons, p_some, a_tmp, wp_seq, wp_reg, wp_skip, wp_ret, q_thenN, evQ, Nat.reduceEqDiff, Nat.succ_ne_zero, if_false, if_true]
        rw [wrap_i64 (by omega) (by omega)]
        refine fin_tmp (.inr rfl) ?_
        simp only [countR, hu, hle, ne_eq, not_true_eq_false, g_cons, Nat.reduceEqDiff, Nat.succ_ne_zero, if_false, if_true]
        refine fin_r0 (bs := bs) (r := ⟨at0, 0⟩) (r' := ⟨k, 0⟩) ?_
        exact ⟨frz_sc, rfl⟩
      · have hd : decide ((n : Int) ≤ (most : Int)) = false := by simpa using hle
        simp only [hd, decide_true, Bool.true_and, ne_eq, not_true_eq_false, k_call, k_seq, k_reg, k_some, o_nil, Bool.not_false, o_un, g_cons, p_some, a_tmp, q_thenN, evQ, Nat.reduceEqDiff, Nat.succ_ne_zero, Bool.false_eq_true, if_false, if_true]
        rw [wp_cond (v := true) (by simp only [g_cons, a_tmp, Nat.reduceEqDiff, Nat.succ_ne_zero, if_false, if_true])]
        refine ⟨fun _ => ?_, (fun h => by cases h)⟩
        simp only [k_seq, k_reg, o_nil, o_mov, p_some, a_i64_0, wp_seq, wp_reg, wp_ret, q_thenN, q_thenR]
        refine fin_tmp (.inr rfl) ?_
        simp only [countR, hu, hle, ne_eq, not_true_eq_false, g_cons, Nat.reduceEqDiff, Nat.succ_ne_zero, if_false, if_true]
        refine fin_r0 (bs := bs) (r := ⟨at0, 0⟩) (r' := ⟨at0, 7⟩) ?_
        exact ⟨frz_sc, rfl⟩

set_option maxHeartbeats 1000000 in
theorem call117 {bs : List UInt8} {r : RS} (hr : r.ok bs) :
    RC 117 bs [] r (.sc (.int .i64 (numR bs r).1)) (numR bs r).2 := by
  intro st i hi
  obtain ⟨at0, e0⟩ := r
  refine acall_t t117 (by simp) ?_
  simp only [c117, c117r0, r_getJ hi, rdO, u8ne, k_call, k_seq, k_reg, k_some, o_nil, o_mov, o_load, o_nilck, o_bin, o_faddr, g_cons, p_some, a_tmp, a_i64_0, a_u8_0, wp_seq, wp_reg, q_thenN, evQ, binA, binInts, binI, argE, Nat.reduceEqDiff, Nat.reduceAdd, Nat.succ_ne_zero, ld_ref, List.length_cons, List.length_nil, Nat.zero_add, partA, List.getElem?_cons_zero, List.getElem?_cons_succ, List.drop_zero, List.drop_succ_cons, List.take_succ_cons, List.take_zero, Nat.le_refl, Bool.false_eq_true, if_false, if_true]
  rw [wp_cond (v := decide (e0 ≠ 0)) (by simp only [g_cons, a_tmp, Nat.reduceEqDiff, Nat.succ_ne_zero, if_false, if_true])]
  refine ⟨fun h => ?_, fun h => ?_⟩
  · have he : e0 ≠ 0 := by simpa using h
    simp only [k_seq, k_reg, o_nil, o_mov, p_some, a_i64_0, wp_seq, wp_reg, wp_ret, q_thenN, q_thenR]
    refine fin_tmp (.inr rfl) ?_
    simp only [numR, he, ne_eq, not_false_eq_true, g_cons, Nat.reduceEqDiff, Nat.succ_ne_zero, if_false, if_true]
    refine fin_r0 (bs := bs) (r := ⟨at0, e0⟩) (r' := ⟨at0, e0⟩) ?_
    exact ⟨frz_sc, rfl⟩
  · have he : e0 = 0 := by simpa using h
    subst he
    simp only [c117d1, r_getJ hi, k_drw, wp_draw, d_mov, d_nilck, d_faddr, d_load, k_seq, k_some, g_cons, p_some, a_tmp, wp_seq, wp_skip, q_thenN, evQ, Nat.reduceEqDiff, Nat.reduceAdd, Nat.succ_ne_zero, ld_ref, List.length_cons, List.length_nil, Nat.zero_add, partA, List.getElem?_cons_zero, List.getElem?_cons_succ, List.drop_zero, List.drop_succ_cons, List.take_succ_cons, List.take_zero, Nat.reduceLeDiff, Bool.false_eq_true, if_false, if_true]
    refine d_call2 (x := intV (intR bs at0)) (st' := st.set i (AO.cells [bA bs, AV.sc (Value.int IntKind.i64 at0), AV.sc (Value.int IntKind.u8 (0 : Nat))])) (by simp only [g_cons, a_tmp, a_fun, fn_call, List.map_cons, List.map_nil, Nat.reduceEqDiff, Nat.succ_ne_zero, if_false, if_true]; exact call170 hr) (fun p hp => by cases hp) ?_
    cases hu : intR bs at0 with
    | error e =>
      have hee := intR_err hu
      have he : e ≠ 0 := by omega
      have g1 : decide ((0 : Int) ≥ -2147483648) = true := by decide
      have g2 : decide ((0 : Int) ≤ 2147483647) = true := by decide
      simp only [intV, c117r2, g1, g2, List.getElem?_cons_zero, List.getElem?_cons_succ, k_drw, d_nil, d_mov, d_ext, k_call, k_seq, k_reg, k_some, k_tt, o_grdM, o_mov, o_pick, o_bin, o_call, g_cons, p_some, a_tmp, a_fun, a_bool, a_i64_m2147483648, a_i64_2147483647, wp_seq, wp_reg, q_thenN, fn_call, evQ, binA, binInts, binI, List.map_cons, List.map_nil, Nat.reduceEqDiff, Nat.succ_ne_zero, List.getElem?_cons_zero, List.getElem?_cons_succ, if_false, if_true]
      refine (call168 (bs := bs) (r := ⟨at0, 0⟩) (next := 0) (e := e) (ok := true) rfl st i hi).mono ?_
      rintro x s ⟨rfl, rfl⟩
      have hd : decide (e = 0) = false := by simpa using he
      simp only [Bool.false_and, decide_false, he, ne_eq, not_false_eq_true, k_call, k_seq, k_reg, k_some, o_nil, Bool.not_false, o_un, g_cons, p_some, a_tmp, q_thenN, evQ, Nat.reduceEqDiff, Nat.succ_ne_zero, if_false, if_true]
      rw [wp_cond (v := true) (by simp only [g_cons, a_tmp, Nat.reduceEqDiff, Nat.succ_ne_zero, if_false, if_true])]
      refine ⟨fun _ => ?_, (fun h => by cases h)⟩
      simp only [k_seq, k_reg, o_nil, o_mov, p_some, a_i64_0, wp_seq, wp_reg, wp_ret, q_thenN, q_thenR]
      refine fin_tmp (.inr rfl) ?_
      simp only [numR, hu, ne_eq, not_true_eq_false, g_cons, Nat.reduceEqDiff, Nat.succ_ne_zero, if_false, if_true]
      refine fin_r0 (bs := bs) (r := ⟨at0, 0⟩) (r' := ⟨at0, e⟩) ?_
      exact ⟨frz_sc, rfl⟩
    | ok q =>
      obtain ⟨n, k⟩ := q
      have hn := intR_lt hr hu
      simp only at hn
      by_cases h1 : n ≥ -2147483648
      · have g1 : decide (n ≥ -2147483648) = true := by simpa using h1
        simp only [intV, c117r2, g1, List.getElem?_cons_zero, List.getElem?_cons_succ, k_drw, d_nil, d_mov, d_ext, k_call, k_seq, k_reg, k_some, k_tt, o_grdM, o_mov, o_pick, o_bin, o_call, g_cons, p_some, a_tmp, a_fun, a_bool, a_i64_m2147483648, a_i64_2147483647, wp_seq, wp_reg, q_thenN, fn_call, evQ, binA, binInts, binI, List.map_cons, List.map_nil, Nat.reduceEqDiff, Nat.succ_ne_zero, List.getElem?_cons_zero, List.getElem?_cons_succ, if_false, if_true]
        refine (call168 (bs := bs) (r := ⟨at0, 0⟩) (next := k) (e := 0) rfl st i hi).mono ?_
        rintro x s ⟨rfl, rfl⟩
        by_cases hle : n ≤ 2147483647
        · have hd : decide (n ≤ 2147483647) = true := by simpa using hle
          simp only [hd, decide_true, Bool.true_and, ne_eq, not_true_eq_false, k_call, k_seq, k_reg, k_some, o_nil, Bool.not_true, o_un, g_cons, p_some, a_tmp, q_thenN, evQ, Nat.reduceEqDiff, Nat.succ_ne_zero, if_false, if_true]
          rw [wp_cond (v := false) (by simp only [g_cons, a_tmp, Nat.reduceEqDiff, Nat.succ_ne_zero, if_false, if_true])]
          refine ⟨(fun h => by cases h), fun _ => ?_⟩
          simp only [k_seq, k_reg, o_nil, o_mov, g_cons, p_some, a_tmp, wp_seq, wp_reg, wp_skip, wp_ret, q_thenN, Nat.reduceEqDiff, Nat.succ_ne_zero, if_false, if_true]
          refine fin_tmp (.inr rfl) ?_
          simp only [numR, hu, show -2147483648 ≤ n from h1, hle, and_self, ne_eq, not_true_eq_false, g_cons, Nat.reduceEqDiff, Nat.succ_ne_zero, if_false, if_true]
          refine fin_r0 (bs := bs) (r := ⟨at0, 0⟩) (r' := ⟨k, 0⟩) ?_
          exact ⟨frz_sc, rfl⟩
        · have hd : decide (n ≤ 2147483647) = false := by simpa using hle
          simp only [hd, decide_true, Bool.true_and, ne_eq, not_true_eq_false, k_call, k_seq, k_reg, k_some, o_nil, Bool.not_false, o_un, g_cons, p_some, a_tmp, q_thenN, evQ, Nat.reduceEqDiff, Nat.succ_ne_zero, Bool.false_eq_true, if_false, if_true]
          rw [wp_cond (v := true) (by simp only [g_cons, a_tmp, Nat.reduceEqDiff, Nat.succ_ne_zero, if_false, if_true])]
          refine ⟨fun _ => ?_, (fun h => by cases h)⟩
          simp only [k_seq, k_reg, o_nil, o_mov, p_some, a_i64_0, wp_seq, wp_reg, wp_ret, q_thenN, q_thenR]
          refine fin_tmp (.inr rfl) ?_
          simp only [numR, hu, hle, and_false, ne_eq, not_true_eq_false, g_cons, Nat.reduceEqDiff, Nat.succ_ne_zero, if_false, if_true]
          refine fin_r0 (bs := bs) (r := ⟨at0, 0⟩) (r' := ⟨at0, 7⟩) ?_
          exact ⟨frz_sc, rfl⟩
      · have g1 : decide (n ≥ -2147483648) = false := by simpa using h1
        simp only [intV, c117r2, g1, List.getElem?_cons_zero, List.getElem?_cons_succ, k_drw, d_nil, d_mov, d_ext, k_call, k_seq, k_reg, k_some, k_ft, o_grdM, o_mov, o_pick, o_bin, o_call, g_cons, p_some, a_tmp, a_fun, a_bool, a_i64_m2147483648, wp_seq, wp_reg, q_thenN, fn_call, evQ, binA, binInts, binI, List.map_cons, List.map_nil, Nat.reduceEqDiff, Nat.succ_ne_zero, List.getElem?_cons_zero, List.getElem?_cons_succ, Bool.false_eq_true, if_false, if_true]
        refine (call168 (bs := bs) (r := ⟨at0, 0⟩) (next := k) (e := 0) (ok := false) rfl st i hi).mono ?_
        rintro x s ⟨rfl, rfl⟩
        simp only [decide_true, Bool.and_false, ne_eq, not_true_eq_false, k_call, k_seq, k_reg, k_some, o_nil, Bool.not_false, o_un, g_cons, p_some, a_tmp, q_thenN, evQ, Nat.reduceEqDiff, Nat.succ_ne_zero, Bool.false_eq_true, if_false, if_true]
        rw [wp_cond (v := true) (by simp only [g_cons, a_tmp, Nat.reduceEqDiff, Nat.succ_ne_zero, if_false, if_true])]
        refine ⟨fun _ => ?_, (fun h => by cases h)⟩
        simp only [k_seq, k_reg, o_nil, o_mov, p_some, a_i64_0, wp_seq, wp_reg, wp_ret, q_thenN, q_thenR]
        refine fin_tmp (.inr rfl) ?_
        simp only [numR, hu, show ¬ (-2147483648 ≤ n) from h1, false_and, ne_eq, not_true_eq_false, g_cons, Nat.reduceEqDiff, Nat.succ_ne_zero, if_false, if_true]
        refine fin_r0 (bs := bs) (r := ⟨at0, 0⟩) (r' := ⟨at0, 7⟩) ?_
        exact ⟨frz_sc, rfl⟩

end Go.AW

/-
  Terms, read.
-/
namespace Go.AW
open Go Go.RowKit Go.Proofs
set_option linter.unusedVariables false
set_option linter.unusedSimpArgs false
set_option maxRecDepth 100000

theorem fin_unit {st st' : List AO} {R : AV → List AO → Prop} {x : AX} {en : Env} (hx : x = .normal ∨ x = .ret) (h : Fin st R (.tup []) st') : FinQ [] st R x en [] st' := by
  rcases hx with rfl | rfl <;> exact h

theorem call239 {bs : List UInt8} {r : RS} {e : Nat} (hr : r.e = 0) : RC 239 bs [.sc (.int .u8 (e : Nat))] r (.tup []) ⟨r.at_, e⟩ := by
  intro st i hi
  obtain ⟨at0, e0⟩ := r
  simp only at hr; subst hr
  refine acall_t t239 (by simp) ?_
  simp only [c239, c239r0, r_getJ hi, rdO, u8eq, k_call, k_seq, k_reg, k_some, o_nil, o_mov, o_load, o_nilck, o_bin, o_faddr, g_cons, p_some, a_tmp, a_u8_0, wp_seq, wp_reg, q_thenN, evQ, binA, binInts, binI, argE, Nat.reduceEqDiff, Nat.reduceAdd, Nat.succ_ne_zero, ld_ref, List.length_cons, List.length_nil, Nat.zero_add, partA, List.getElem?_cons_zero, List.getElem?_cons_succ, List.drop_zero, List.drop_succ_cons, List.take_succ_cons, List.take_zero, Nat.le_refl, Bool.false_eq_true, if_false, if_true]
  rw [wp_cond (v := true) (by simp only [g_cons, a_tmp, Nat.reduceEqDiff, Nat.succ_ne_zero, if_false, if_true]; rfl)]
  refine ⟨fun _ => ?_, (fun h => by cases h)⟩
  simp only [c239r1, k_call, k_some, o_mov, o_nilck, o_faddr, g_cons, p_some, a_tmp, wp_reg, evQ, Nat.reduceEqDiff, Nat.succ_ne_zero, Nat.zero_add, if_false, if_true]
  rw [o_store (by simp only [g_cons, a_tmp, Nat.reduceEqDiff, Nat.succ_ne_zero, if_false, if_true]; rfl)]
  simp only [r_getJ hi, r_setJ, k_reg, o_nil, g_cons, p_none, a_tmp, Nat.reduceEqDiff, Nat.reduceAdd, Nat.succ_ne_zero, AV.cells?, List.length_cons, List.length_nil, Nat.zero_add, List.drop_succ_cons, List.take_succ_cons, List.take_zero, putAt, List.nil_append, List.cons_append, List.drop_nil, List.append_nil, Nat.le_refl, true_and, and_true, if_false, if_true]
  refine fin_unit (.inl rfl) ?_
  refine fin_r0 (bs := bs) (r := ⟨at0, 0⟩) (r' := ⟨at0, e⟩) ?_
  exact ⟨rfl, rfl⟩

set_option maxHeartbeats 1000000 in
theorem call212 {bs : List UInt8} {most : Nat} {r : RS} (hr : r.ok bs) (hm : most ≤ 1048576) :
    RC 212 bs [.sc (.int .u64 (most : Nat))] r (.sc (.int .i64 ((countR bs most r).1 : Nat))) (countR bs most r).2 := by
  intro st i hi
  obtain ⟨at0, e0⟩ := r
  refine acall_t t212 (by simp) ?_
  simp only [c212, c212r0, r_getJ hi, rdO, u8ne, k_call, k_seq, k_reg, k_some, o_nil, o_mov, o_load, o_nilck, o_bin, o_faddr, g_cons, p_some, a_tmp, a_i64_0, a_u8_0, wp_seq, wp_reg, q_thenN, evQ, binA, binInts, binI, argE, Nat.reduceEqDiff, Nat.reduceAdd, Nat.succ_ne_zero, ld_ref, List.length_cons, List.length_nil, Nat.zero_add, partA, List.getElem?_cons_zero, List.getElem?_cons_succ, List.drop_zero, List.drop_succ_cons, List.take_succ_cons, List.take_zero, Nat.le_refl, Bool.false_eq_true, if_false, if_true]
  rw [wp_cond (v := decide (e0 ≠ 0)) (by simp only [g_cons, a_tmp, Nat.reduceEqDiff, Nat.succ_ne_zero, if_false, if_true])]
  refine ⟨fun h => ?_, fun h => ?_⟩
  · have he : e0 ≠ 0 := by simpa using h
    simp only [k_seq, k_reg, o_nil, o_mov, p_some, a_i64_0, wp_seq, wp_reg, wp_ret, q_thenN, q_thenR]
    refine fin_tmp (.inr rfl) ?_
    simp only [countR, he, ne_eq, not_false_eq_true, g_cons, Nat.reduceEqDiff, Nat.succ_ne_zero, if_false, if_true]
    refine fin_r0 (bs := bs) (r := ⟨at0, e0⟩) (r' := ⟨at0, e0⟩) ?_
    exact ⟨frz_sc, rfl⟩
  · have he : e0 = 0 := by simpa using h
    subst he
    simp only [c212d1, r_getJ hi, k_drw, wp_draw, d_mov, d_nilck, d_faddr, d_load, k_seq, k_some, g_cons, p_some, a_tmp, wp_seq, wp_skip, q_thenN, evQ, Nat.reduceEqDiff, Nat.reduceAdd, Nat.succ_ne_zero, ld_ref, List.length_cons, List.length_nil, Nat.zero_add, partA, List.getElem?_cons_zero, List.getElem?_cons_succ, List.drop_zero, List.drop_succ_cons, List.take_succ_cons, List.take_zero, Nat.reduceLeDiff, Bool.false_eq_true, if_false, if_true]
    refine d_call2 (x := uintV (uintR bs at0)) (st' := st.set i (AO.cells [bA bs, AV.sc (Value.int IntKind.i64 at0), AV.sc (Value.int IntKind.u8 (0 : Nat))])) (by simp only [g_cons, a_tmp, a_fun, fn_call, List.map_cons, List.map_nil, Nat.reduceEqDiff, Nat.succ_ne_zero, if_false, if_true]; exact call167 hr) (fun p hp => by cases hp) ?_
    cases hu : uintR bs at0 with
    | error e =>
      have hee := uintR_err hu
      have he : e ≠ 0 := by omega
      simp only [uintV, c212r2, u8ne, List.getElem?_cons_zero, List.getElem?_cons_succ, k_drw, d_nil, d_mov, d_ext, k_call, k_seq, k_reg, k_some, o_nil, o_mov, o_bin, g_cons, p_some, a_tmp, a_u8_0, wp_seq, wp_reg, wp_block, q_thenN, evQ, binA, binInts, binI, List.map_nil, Nat.reduceEqDiff, Nat.succ_ne_zero, List.getElem?_cons_zero, List.getElem?_cons_succ, if_false, if_true]
      rw [wp_cond (v := true) (by simp only [he, ne_eq, not_false_eq_true, decide_true, g_cons, a_tmp, Nat.reduceEqDiff, Nat.succ_ne_zero, if_false, if_true])]
      refine ⟨fun _ => ?_, (fun h => by cases h)⟩
      simp only [c212r3, o_mov, o_call, g_cons, p_some, a_tmp, a_fun, wp_reg, fn_call, List.map_cons, List.map_nil, Nat.reduceEqDiff, Nat.succ_ne_zero, if_false, if_true]
      refine (call239 (bs := bs) (r := ⟨at0, 0⟩) (e := e) rfl st i hi).mono ?_
      rintro x s ⟨rfl, rfl⟩
      simp only [k_call, k_seq, k_reg, o_nil, o_mov, p_some, a_i64_0, wp_seq, wp_reg, wp_ret, q_thenN, q_blkN]
      refine fin_tmp (.inr rfl) ?_
      simp only [countR, hu, ne_eq, not_true_eq_false, g_cons, Nat.reduceEqDiff, Nat.succ_ne_zero, if_false, if_true]
      refine fin_r0 (bs := bs) (r := ⟨at0, 0⟩) (r' := ⟨at0, e⟩) ?_
      exact ⟨frz_sc, rfl⟩
    | ok q =>
      obtain ⟨n, k⟩ := q
      have hn := uintR_lt hr hu
      simp only at hn
      simp only [uintV, c212r2, List.getElem?_cons_zero, List.getElem?_cons_succ, k_drw, d_nil, d_mov, d_ext, k_call, k_seq, k_reg, k_some, o_nil, o_mov, o_bin, g_cons, p_some, a_tmp, a_u8_0, wp_seq, wp_reg, wp_block, q_thenN, evQ, binA, binInts, binI, List.map_nil, Nat.reduceEqDiff, Nat.succ_ne_zero, List.getElem?_cons_zero, List.getElem?_cons_succ, if_false, if_true]
      rw [wp_cond (v := false) (by simp only [g_cons, a_tmp, Nat.reduceEqDiff, Nat.succ_ne_zero, if_false, if_true]; rfl)]
      refine ⟨(fun h => by cases h), fun _ => ?_⟩
      simp only [c212r4, k_call, k_seq, k_reg, k_some, o_nil, o_mov, o_bin, g_cons, p_some, a_tmp, wp_seq, wp_reg, q_thenN, binA, binInts, binI, Nat.reduceEqDiff, Nat.succ_ne_zero, if_false, if_true]
      rw [wp_cond (v := decide ((n : Int) > (most : Int))) (by simp only [g_cons, a_tmp, Nat.reduceEqDiff, Nat.succ_ne_zero, if_false, if_true])]
      refine ⟨fun h => ?_, fun h => ?_⟩
      · have hle : ¬ n ≤ most := by have : (n : Int) > most := by simpa using h
                                    omega
        simp only [o_mov, o_call, g_cons, p_some, a_tmp, a_fun, a_u8_7, wp_reg, fn_call, List.map_cons, List.map_nil, Nat.reduceEqDiff, Nat.succ_ne_zero, if_false, if_true]
        refine (call239 (bs := bs) (r := ⟨at0, 0⟩) (e := 7) rfl st i hi).mono ?_
        rintro x s ⟨rfl, rfl⟩
        simp only [k_call, k_seq, k_reg, o_nil, o_mov, p_some, a_i64_0, wp_seq, wp_reg, wp_ret, q_thenN, q_blkN]
        refine fin_tmp (.inr rfl) ?_
        simp only [countR, hu, hle, ne_eq, not_true_eq_false, g_cons, Nat.reduceEqDiff, Nat.succ_ne_zero, if_false, if_true]
        refine fin_r0 (bs := bs) (r := ⟨at0, 0⟩) (r' := ⟨at0, 7⟩) ?_
        exact ⟨frz_sc, rfl⟩
      · have hle : n ≤ most := by have : ¬ (n : Int) > most := by simpa using h
                                  omega
        simp only [c212r5, k_call, k_some, o_mov, o_nilck, o_faddr, g_cons, p_some, a_tmp, wp_seq, wp_reg, evQ, Nat.reduceEqDiff, Nat.succ_ne_zero, Nat.zero_add, if_false, if_true]
        rw [o_store (by simp only [g_cons, a_tmp, Nat.reduceEqDiff, Nat.succ_ne_zero, if_false, if_true]; rfl)]
        simp only [c212r6, r_getJ hi, r_setJ, k_call, k_seq, k_reg, k_some, o_nil, o_mov, o_cvi, g_cons, p_some, p_none, a_tmp, wp_seq, wp_reg, wp_ret, q_thenN, q_thenR, q_blkR, evQ, Nat.reduceEqDiff, Nat.reduceAdd, Nat.succ_ne_zero, AV.cells?, List.length_cons, List.length_nil, Nat.zero_add, List.drop_zero, List.drop_succ_cons, List.take_succ_cons, List.take_zero, putAt, List.nil_append, List.cons_append, Nat.reduceLeDiff, true_and, and_true, if_false, if_true]
        rw [wrap_i64 (by omega) (by omega)]
        refine fin_tmp (.inr rfl) ?_
        simp only [countR, hu, hle, ne_eq, not_true_eq_false, g_cons, Nat.reduceEqDiff, Nat.succ_ne_zero, if_false, if_true]
        refine fin_r0 (bs := bs) (r := ⟨at0, 0⟩) (r' := ⟨k, 0⟩) ?_
        exact ⟨frz_sc, rfl⟩

/-- So many, as long as there is no error. -/
def manyR {α : Type} (f : RS → α × RS) : Nat → RS → List α × RS
  | 0, r => ([], r)
  | n + 1, r => if r.e ≠ 0 then ([], r) else ((f r).1 :: (manyR f n (f r).2).1, (manyR f n (f r).2).2)
def termR (bs : List UInt8) : Nat → RS → Tm × RS
  | 0, r => if r.e ≠ 0 then (.mk 0 [], r) else match intR bs r.at_ with
    | .error e => (.mk 0 [], ⟨r.at_, e⟩)
    | .ok _ => (.mk 0 [], ⟨r.at_, 7⟩)
  | g + 1, r => if r.e ≠ 0 then (.mk 0 [], r) else match intR bs r.at_ with
    | .error e => (.mk 0 [], ⟨r.at_, e⟩)
    | .ok (f, k) => if -2147483648 ≤ f ∧ f ≤ 2147483647 then
        (if f < 0 then (.mk f [], ⟨k, 0⟩) else (.mk f (manyR (termR bs g) (countR bs 4096 ⟨k, 0⟩).1 (countR bs 4096 ⟨k, 0⟩).2).1, (manyR (termR bs g) (countR bs 4096 ⟨k, 0⟩).1 (countR bs 4096 ⟨k, 0⟩).2).2))
      else (.mk 0 [], ⟨r.at_, 7⟩)

theorem countR_ok {bs : List UInt8} {most : Nat} {r : RS} (h : r.ok bs) : (countR bs most r).2.ok bs ∧ (countR bs most r).1 ≤ most := by
  unfold countR
  split
  · exact ⟨h, Nat.zero_le _⟩
  · split
    · exact ⟨h, Nat.zero_le _⟩
    · rename_i n k hu
      have := uintR_lt h hu
      split
      · rename_i hle; exact ⟨this.2.2, hle⟩
      · exact ⟨h, Nat.zero_le _⟩
theorem numR_ok {bs : List UInt8} {r : RS} (h : r.ok bs) : (numR bs r).2.ok bs := by
  unfold numR
  split
  · exact h
  · split
    · exact h
    · rename_i n k hu
      have := intR_lt h hu
      split
      · exact this.2.2
      · exact h
theorem manyR_ok {bs : List UInt8} {α : Type} {f : RS → α × RS} (hf : ∀ r, r.ok bs → (f r).2.ok bs) : ∀ {n : Nat} {r : RS}, r.ok bs → (manyR f n r).2.ok bs
  | 0, r, h => h
  | n + 1, r, h => by
    simp only [manyR]
    split
    · exact h
    · exact manyR_ok hf (hf r h)
theorem termR_ok {bs : List UInt8} : ∀ {g : Nat} {r : RS}, r.ok bs → (termR bs g r).2.ok bs
  | 0, r, h => by
    simp only [termR]
    split
    · exact h
    · split <;> exact h
  | g + 1, r, h => by
    simp only [termR]
    split
    · exact h
    · split
      · exact h
      · rename_i f k hu
        have hk : (RS.mk k 0).ok bs := (intR_lt h hu).2.2
        split
        · split
          · exact hk
          · exact manyR_ok (fun r hr => termR_ok hr) (countR_ok hk).1
        · exact h
theorem manyR_len {α : Type} {f : RS → α × RS} : ∀ {n : Nat} {r : RS}, (manyR f n r).1.length ≤ n
  | 0, r => Nat.le_refl _
  | n + 1, r => by
    simp only [manyR]
    split
    · exact Nat.zero_le _
    · simp only [List.length_cons]; have := manyR_len (f := f) (n := n) (r := (f r).2); omega
end Go.AW

/-
  Terms, read: the walk.
-/
namespace Go.AW
open Go Go.RowKit Go.Proofs
set_option linter.unusedVariables false
set_option linter.unusedSimpArgs false
set_option maxRecDepth 100000

theorem tmA0 : (AV.agg [.sc (.int .i64 0), .sl true []]).nrmT = tmA (.mk 0 []) := rfl
theorem fin_agg {st' : List AO} {m : Nat} {F : Int} {v : AV} {xs : List AV} (h : (v.frzC st' m).nrmC = .sl false xs) : ((AV.agg [.sc (.int .i64 F), v]).frz st' m).nrmT = .agg [.sc (.int .i64 F), .sl false xs] := by
  simp only [AV.frz, AV.frzV, AV.nrmT, AV.nrm, List.map_cons, List.map_nil, h, frzC_sc]; rfl

set_option maxHeartbeats 4000000 in
theorem call213 {bs : List UInt8} : ∀ (g deep : Nat), g + deep = 257 → ∀ {r : RS}, r.ok bs → RC 213 bs [.sc (.int .i64 (deep : Nat))] r (tmA (termR bs g r).1) (termR bs g r).2 := by
  intro g
  induction g with
  | zero =>
    intro deep hg r hr st i hi
    obtain ⟨at0, e0⟩ := r
    refine acall_t t213 (by simp) ?_
    simp only [c213, c213r0, r_getI hi, List.length_set, rdO, u8ne, k_call, k_seq, k_reg, k_some, o_nil, o_mov, o_load, o_nilck, o_bin, o_faddr, o_alloc, g_cons, p_some, a_tmp, a_u8_0, wp_seq, wp_reg, q_thenN, evQ, binA, binInts, binI, argE, Nat.reduceEqDiff, Nat.reduceAdd, Nat.succ_ne_zero, ld_ref, List.length_cons, List.length_nil, Nat.zero_add, partA, List.getElem?_cons_zero, List.getElem?_cons_succ, List.drop_zero, List.drop_succ_cons, List.take_succ_cons, List.take_zero, Nat.le_refl, Bool.false_eq_true, if_false, if_true]
    rw [wp_cond (v := decide (e0 ≠ 0)) (by simp only [g_cons, a_tmp, Nat.reduceEqDiff, Nat.succ_ne_zero, if_false, if_true])]
    refine ⟨fun h => ?_, fun h => ?_⟩
    · have he : e0 ≠ 0 := by simpa using h
      simp only [fillA, k_call, k_some, o_build, p_some, wp_seq, wp_reg, List.map_nil, Option.map_some]
      rw [o_store (by simp only [g_cons, a_tmp, Nat.reduceEqDiff, Nat.succ_ne_zero, if_false, if_true]; rfl)]
      simp only [r_get0, r_set0, List.set_cons_zero, k_seq, k_reg, o_nil, g_cons, p_none, a_tmp, wp_ret, q_thenN, q_thenR, Nat.reduceEqDiff, Nat.reduceAdd, Nat.succ_ne_zero, AV.cells?, List.length_cons, List.length_nil, Nat.zero_add, List.getElem?_cons_zero, List.drop_succ_cons, List.take_zero, putAt, List.nil_append, List.drop_nil, List.append_nil, Nat.le_refl, true_and, and_true, if_false, if_true]
      refine fin_cell (v := .agg [.sc (.int .i64 0), .sl true []]) (.inr rfl) (by simp only [r_get0, g_cons, Nat.reduceEqDiff, Nat.reduceAdd, Nat.succ_ne_zero, ld_ref, List.length_cons, List.length_nil, Nat.zero_add, partA, List.getElem?_cons_zero, List.drop_zero, List.take_succ_cons, List.take_zero, Nat.le_refl, if_false, if_true]) ?_
      simp only [termR, he, ne_eq, not_false_eq_true, if_true]
      refine fin_rN (bs := bs) (r := ⟨at0, e0⟩) (r' := ⟨at0, e0⟩) ?_
      exact ⟨by rw [fin_agg (xs := []) (by rw [frzC_sl]; rfl)]; rfl, rfl⟩
    · have he : e0 = 0 := by simpa using h
      subst he
      simp only [c213d1, r_getI hi, k_drw, wp_draw, d_mov, d_nilck, d_faddr, d_load, k_seq, k_some, g_cons, p_some, a_tmp, wp_seq, wp_skip, q_thenN, evQ, Nat.reduceEqDiff, Nat.reduceAdd, Nat.succ_ne_zero, ld_ref, List.length_cons, List.length_nil, Nat.zero_add, partA, List.getElem?_cons_zero, List.getElem?_cons_succ, List.drop_zero, List.drop_succ_cons, List.take_succ_cons, List.take_zero, Nat.reduceLeDiff, Bool.false_eq_true, if_false, if_true]
      refine d_call2 (x := intV (intR bs at0)) (st' := _) (by simp only [g_cons, a_tmp, a_fun, fn_call, List.map_cons, List.map_nil, Nat.reduceEqDiff, Nat.succ_ne_zero, if_false, if_true]; exact call170 hr) (fun p hp => by cases hp) ?_
      cases hu : intR bs at0 with
      | error e =>
        have hee := intR_err hu
        have he : e ≠ 0 := by omega
        simp only [intV, c213r2, u8ne, k_drw, d_nil, d_mov, d_ext, k_call, k_seq, k_reg, k_some, o_nil, o_mov, o_bin, g_cons, p_some, a_tmp, a_u8_0, wp_seq, wp_reg, wp_block, q_thenN, evQ, binA, binInts, binI, List.map_nil, Nat.reduceEqDiff, Nat.succ_ne_zero, List.getElem?_cons_zero, List.getElem?_cons_succ, if_false, if_true]
        rw [wp_cond (v := true) (by simp only [he, ne_eq, not_false_eq_true, decide_true, g_cons, a_tmp, Nat.reduceEqDiff, Nat.succ_ne_zero, if_false, if_true])]
        refine ⟨fun _ => ?_, (fun h => by cases h)⟩
        simp only [c213r3, o_mov, o_call, g_cons, p_some, a_tmp, a_fun, wp_seq, wp_reg, fn_call, List.map_cons, List.map_nil, Nat.reduceEqDiff, Nat.succ_ne_zero, if_false, if_true]
        refine (RC.at (call239 (bs := bs) (r := ⟨at0, 0⟩) (e := e) rfl) hi).mono ?_
        rintro x s ⟨rfl, rfl⟩
        simp only [fillA, rdO, k_call, k_seq, k_reg, k_some, o_nil, o_build, p_some, wp_seq, wp_reg, q_thenN, List.map_nil, Option.map_some]
        rw [o_store (by simp only [g_cons, a_tmp, Nat.reduceEqDiff, Nat.succ_ne_zero, if_false, if_true]; rfl)]
        simp only [r_get0, r_set0, List.set_cons_zero, k_seq, k_reg, o_nil, g_cons, p_none, a_tmp, wp_ret, q_thenN, q_thenR, q_blkR, Nat.reduceEqDiff, Nat.reduceAdd, Nat.succ_ne_zero, AV.cells?, List.length_cons, List.length_nil, Nat.zero_add, List.getElem?_cons_zero, List.drop_succ_cons, List.take_zero, putAt, List.nil_append, List.drop_nil, List.append_nil, Nat.le_refl, true_and, and_true, if_false, if_true]
        refine fin_cell (v := .agg [.sc (.int .i64 0), .sl true []]) (.inr rfl) (by simp only [r_get0, g_cons, Nat.reduceEqDiff, Nat.reduceAdd, Nat.succ_ne_zero, ld_ref, List.length_cons, List.length_nil, Nat.zero_add, partA, List.getElem?_cons_zero, List.drop_zero, List.take_succ_cons, List.take_zero, Nat.le_refl, if_false, if_true]) ?_
        simp only [termR, hu, ne_eq, not_true_eq_false, if_false]
        refine fin_rN (bs := bs) (r := ⟨at0, 0⟩) (r' := ⟨at0, e⟩) ?_
        exact ⟨by rw [fin_agg (xs := []) (by rw [frzC_sl]; rfl)]; rfl, rfl⟩
      | ok q =>
        obtain ⟨f, k⟩ := q
        have hn := intR_lt hr hu
        simp only at hn
        simp only [intV, c213r2, k_drw, d_nil, d_mov, d_ext, k_call, k_seq, k_reg, k_some, o_nil, o_mov, o_bin, g_cons, p_some, a_tmp, a_u8_0, wp_seq, wp_reg, wp_block, q_thenN, evQ, binA, binInts, binI, List.map_nil, Nat.reduceEqDiff, Nat.succ_ne_zero, List.getElem?_cons_zero, List.getElem?_cons_succ, if_false, if_true]
        rw [wp_cond (v := false) (by simp only [g_cons, a_tmp, Nat.reduceEqDiff, Nat.succ_ne_zero, if_false, if_true]; rfl)]
        refine ⟨(fun h => by cases h), fun _ => ?_⟩
        by_cases h1 : f < -2147483648
        · have g1 : decide (f < -2147483648) = true := by simpa using h1
          simp only [c213r4, g1, k_call, k_seq, k_reg, k_some, k_tf, o_nil, o_grdM, o_mov, o_pick, o_bin, g_cons, p_some, a_tmp, a_bool, a_i64_m2147483648, wp_seq, wp_reg, q_thenN, binA, binInts, binI, Nat.reduceEqDiff, Nat.succ_ne_zero, if_false, if_true]
          rw [wp_cond (v := true) (by simp only [g_cons, a_tmp, Nat.reduceEqDiff, Nat.succ_ne_zero, if_false, if_true])]
          refine ⟨fun _ => ?_, (fun h => by cases h)⟩
          simp only [o_mov, o_call, g_cons, p_some, a_tmp, a_fun, a_u8_7, wp_seq, wp_reg, fn_call, List.map_cons, List.map_nil, Nat.reduceEqDiff, Nat.succ_ne_zero, if_false, if_true]
          refine (RC.at (call239 (bs := bs) (r := ⟨at0, 0⟩) (e := 7) rfl) hi).mono ?_
          rintro x s ⟨rfl, rfl⟩
          simp only [fillA, rdO, k_call, k_seq, k_reg, k_some, o_nil, o_build, p_some, wp_seq, wp_reg, q_thenN, List.map_nil, Option.map_some]
          rw [o_store (by simp only [g_cons, a_tmp, Nat.reduceEqDiff, Nat.succ_ne_zero, if_false, if_true]; rfl)]
          simp only [r_get0, r_set0, List.set_cons_zero, k_seq, k_reg, o_nil, g_cons, p_none, a_tmp, wp_ret, q_thenN, q_thenR, q_blkR, Nat.reduceEqDiff, Nat.reduceAdd, Nat.succ_ne_zero, AV.cells?, List.length_cons, List.length_nil, Nat.zero_add, List.getElem?_cons_zero, List.drop_succ_cons, List.take_zero, putAt, List.nil_append, List.drop_nil, List.append_nil, Nat.le_refl, true_and, and_true, if_false, if_true]
          refine fin_cell (v := .agg [.sc (.int .i64 0), .sl true []]) (.inr rfl) (by simp only [r_get0, g_cons, Nat.reduceEqDiff, Nat.reduceAdd, Nat.succ_ne_zero, ld_ref, List.length_cons, List.length_nil, Nat.zero_add, partA, List.getElem?_cons_zero, List.drop_zero, List.take_succ_cons, List.take_zero, Nat.le_refl, if_false, if_true]) ?_
          simp only [termR, hu, ne_eq, not_true_eq_false, if_false]
          refine fin_rN (bs := bs) (r := ⟨at0, 0⟩) (r' := ⟨at0, 7⟩) ?_
          exact ⟨by rw [fin_agg (xs := []) (by rw [frzC_sl]; rfl)]; rfl, rfl⟩
        have g1 : decide (f < -2147483648) = false := by simpa using h1
        by_cases h2 : f > 2147483647
        · have g2 : decide (f > 2147483647) = true := by simpa using h2
          simp only [c213r4, g1, g2, k_call, k_seq, k_reg, k_some, k_ff, k_tf, o_nil, o_grdM, o_mov, o_pick, o_bin, g_cons, p_some, a_tmp, a_bool, a_i64_m2147483648, a_i64_2147483647, wp_seq, wp_reg, q_thenN, binA, binInts, binI, Nat.reduceEqDiff, Nat.succ_ne_zero, Bool.false_eq_true, if_false, if_true]
          rw [wp_cond (v := true) (by simp only [g_cons, a_tmp, Nat.reduceEqDiff, Nat.succ_ne_zero, if_false, if_true])]
          refine ⟨fun _ => ?_, (fun h => by cases h)⟩
          simp only [o_mov, o_call, g_cons, p_some, a_tmp, a_fun, a_u8_7, wp_seq, wp_reg, fn_call, List.map_cons, List.map_nil, Nat.reduceEqDiff, Nat.succ_ne_zero, if_false, if_true]
          refine (RC.at (call239 (bs := bs) (r := ⟨at0, 0⟩) (e := 7) rfl) hi).mono ?_
          rintro x s ⟨rfl, rfl⟩
          simp only [fillA, rdO, k_call, k_seq, k_reg, k_some, o_nil, o_build, p_some, wp_seq, wp_reg, q_thenN, List.map_nil, Option.map_some]
          rw [o_store (by simp only [g_cons, a_tmp, Nat.reduceEqDiff, Nat.succ_ne_zero, if_false, if_true]; rfl)]
          simp only [r_get0, r_set0, List.set_cons_zero, k_seq, k_reg, o_nil, g_cons, p_none, a_tmp, wp_ret, q_thenN, q_thenR, q_blkR, Nat.reduceEqDiff, Nat.reduceAdd, Nat.succ_ne_zero, AV.cells?, List.length_cons, List.length_nil, Nat.zero_add, List.getElem?_cons_zero, List.drop_succ_cons, List.take_zero, putAt, List.nil_append, List.drop_nil, List.append_nil, Nat.le_refl, true_and, and_true, if_false, if_true]
          refine fin_cell (v := .agg [.sc (.int .i64 0), .sl true []]) (.inr rfl) (by simp only [r_get0, g_cons, Nat.reduceEqDiff, Nat.reduceAdd, Nat.succ_ne_zero, ld_ref, List.length_cons, List.length_nil, Nat.zero_add, partA, List.getElem?_cons_zero, List.drop_zero, List.take_succ_cons, List.take_zero, Nat.le_refl, if_false, if_true]) ?_
          simp only [termR, hu, ne_eq, not_true_eq_false, if_false]
          refine fin_rN (bs := bs) (r := ⟨at0, 0⟩) (r' := ⟨at0, 7⟩) ?_
          exact ⟨by rw [fin_agg (xs := []) (by rw [frzC_sl]; rfl)]; rfl, rfl⟩
        have g2 : decide (f > 2147483647) = false := by simpa using h2
        · have g3 : decide ((deep : Int) > 256) = true := by simp; omega
          simp only [c213r4, g1, g2, g3, k_call, k_seq, k_reg, k_some, k_ff, o_nil, o_grdM, o_mov, o_pick, o_bin, g_cons, p_some, a_tmp, a_bool, a_i64_256, a_i64_m2147483648, a_i64_2147483647, wp_seq, wp_reg, q_thenN, binA, binInts, binI, Nat.reduceEqDiff, Nat.succ_ne_zero, Bool.false_eq_true, if_false, if_true]
          rw [wp_cond (v := true) (by simp only [g_cons, a_tmp, Nat.reduceEqDiff, Nat.succ_ne_zero, if_false, if_true])]
          refine ⟨fun _ => ?_, (fun h => by cases h)⟩
          simp only [o_mov, o_call, g_cons, p_some, a_tmp, a_fun, a_u8_7, wp_seq, wp_reg, fn_call, List.map_cons, List.map_nil, Nat.reduceEqDiff, Nat.succ_ne_zero, if_false, if_true]
          refine (RC.at (call239 (bs := bs) (r := ⟨at0, 0⟩) (e := 7) rfl) hi).mono ?_
          rintro x s ⟨rfl, rfl⟩
          simp only [fillA, rdO, k_call, k_seq, k_reg, k_some, o_nil, o_build, p_some, wp_seq, wp_reg, q_thenN, List.map_nil, Option.map_some]
          rw [o_store (by simp only [g_cons, a_tmp, Nat.reduceEqDiff, Nat.succ_ne_zero, if_false, if_true]; rfl)]
          simp only [r_get0, r_set0, List.set_cons_zero, k_seq, k_reg, o_nil, g_cons, p_none, a_tmp, wp_ret, q_thenN, q_thenR, q_blkR, Nat.reduceEqDiff, Nat.reduceAdd, Nat.succ_ne_zero, AV.cells?, List.length_cons, List.length_nil, Nat.zero_add, List.getElem?_cons_zero, List.drop_succ_cons, List.take_zero, putAt, List.nil_append, List.drop_nil, List.append_nil, Nat.le_refl, true_and, and_true, if_false, if_true]
          refine fin_cell (v := .agg [.sc (.int .i64 0), .sl true []]) (.inr rfl) (by simp only [r_get0, g_cons, Nat.reduceEqDiff, Nat.reduceAdd, Nat.succ_ne_zero, ld_ref, List.length_cons, List.length_nil, Nat.zero_add, partA, List.getElem?_cons_zero, List.drop_zero, List.take_succ_cons, List.take_zero, Nat.le_refl, if_false, if_true]) ?_
          simp only [termR, hu, ne_eq, not_true_eq_false, if_false]
          refine fin_rN (bs := bs) (r := ⟨at0, 0⟩) (r' := ⟨at0, 7⟩) ?_
          exact ⟨by rw [fin_agg (xs := []) (by rw [frzC_sl]; rfl)]; rfl, rfl⟩
  | succ g ih =>
    intro deep hg r hr st i hi
    obtain ⟨at0, e0⟩ := r
    refine acall_t t213 (by simp) ?_
    simp only [c213, c213r0, r_getI hi, List.length_set, rdO, u8ne, k_call, k_seq, k_reg, k_some, o_nil, o_mov, o_load, o_nilck, o_bin, o_faddr, o_alloc, g_cons, p_some, a_tmp, a_u8_0, wp_seq, wp_reg, q_thenN, evQ, binA, binInts, binI, argE, Nat.reduceEqDiff, Nat.reduceAdd, Nat.succ_ne_zero, ld_ref, List.length_cons, List.length_nil, Nat.zero_add, partA, List.getElem?_cons_zero, List.getElem?_cons_succ, List.drop_zero, List.drop_succ_cons, List.take_succ_cons, List.take_zero, Nat.le_refl, Bool.false_eq_true, if_false, if_true]
    rw [wp_cond (v := decide (e0 ≠ 0)) (by simp only [g_cons, a_tmp, Nat.reduceEqDiff, Nat.succ_ne_zero, if_false, if_true])]
    refine ⟨fun h => ?_, fun h => ?_⟩
    · have he : e0 ≠ 0 := by simpa using h
      simp only [fillA, k_call, k_some, o_build, p_some, wp_seq, wp_reg, List.map_nil, Option.map_some]
      rw [o_store (by simp only [g_cons, a_tmp, Nat.reduceEqDiff, Nat.succ_ne_zero, if_false, if_true]; rfl)]
      simp only [r_get0, r_set0, List.set_cons_zero, k_seq, k_reg, o_nil, g_cons, p_none, a_tmp, wp_ret, q_thenN, q_thenR, Nat.reduceEqDiff, Nat.reduceAdd, Nat.succ_ne_zero, AV.cells?, List.length_cons, List.length_nil, Nat.zero_add, List.getElem?_cons_zero, List.drop_succ_cons, List.take_zero, putAt, List.nil_append, List.drop_nil, List.append_nil, Nat.le_refl, true_and, and_true, if_false, if_true]
      refine fin_cell (v := .agg [.sc (.int .i64 0), .sl true []]) (.inr rfl) (by simp only [r_get0, g_cons, Nat.reduceEqDiff, Nat.reduceAdd, Nat.succ_ne_zero, ld_ref, List.length_cons, List.length_nil, Nat.zero_add, partA, List.getElem?_cons_zero, List.drop_zero, List.take_succ_cons, List.take_zero, Nat.le_refl, if_false, if_true]) ?_
      simp only [termR, he, ne_eq, not_false_eq_true, if_true]
      refine fin_rN (bs := bs) (r := ⟨at0, e0⟩) (r' := ⟨at0, e0⟩) ?_
      exact ⟨by rw [fin_agg (xs := []) (by rw [frzC_sl]; rfl)]; rfl, rfl⟩
    · have he : e0 = 0 := by simpa using h
      subst he
      simp only [c213d1, r_getI hi, k_drw, wp_draw, d_mov, d_nilck, d_faddr, d_load, k_seq, k_some, g_cons, p_some, a_tmp, wp_seq, wp_skip, q_thenN, evQ, Nat.reduceEqDiff, Nat.reduceAdd, Nat.succ_ne_zero, ld_ref, List.length_cons, List.length_nil, Nat.zero_add, partA, List.getElem?_cons_zero, List.getElem?_cons_succ, List.drop_zero, List.drop_succ_cons, List.take_succ_cons, List.take_zero, Nat.reduceLeDiff, Bool.false_eq_true, if_false, if_true]
      refine d_call2 (x := intV (intR bs at0)) (st' := _) (by simp only [g_cons, a_tmp, a_fun, fn_call, List.map_cons, List.map_nil, Nat.reduceEqDiff, Nat.succ_ne_zero, if_false, if_true]; exact call170 hr) (fun p hp => by cases hp) ?_
      cases hu : intR bs at0 with
      | error e =>
        have hee := intR_err hu
        have he : e ≠ 0 := by omega
        simp only [intV, c213r2, u8ne, k_drw, d_nil, d_mov, d_ext, k_call, k_seq, k_reg, k_some, o_nil, o_mov, o_bin, g_cons, p_some, a_tmp, a_u8_0, wp_seq, wp_reg, wp_block, q_thenN, evQ, binA, binInts, binI, List.map_nil, Nat.reduceEqDiff, Nat.succ_ne_zero, List.getElem?_cons_zero, List.getElem?_cons_succ, if_false, if_true]
        rw [wp_cond (v := true) (by simp only [he, ne_eq, not_false_eq_true, decide_true, g_cons, a_tmp, Nat.reduceEqDiff, Nat.succ_ne_zero, if_false, if_true])]
        refine ⟨fun _ => ?_, (fun h => by cases h)⟩
        simp only [c213r3, o_mov, o_call, g_cons, p_some, a_tmp, a_fun, wp_seq, wp_reg, fn_call, List.map_cons, List.map_nil, Nat.reduceEqDiff, Nat.succ_ne_zero, if_false, if_true]
        refine (RC.at (call239 (bs := bs) (r := ⟨at0, 0⟩) (e := e) rfl) hi).mono ?_
        rintro x s ⟨rfl, rfl⟩
        simp only [fillA, rdO, k_call, k_seq, k_reg, k_some, o_nil, o_build, p_some, wp_seq, wp_reg, q_thenN, List.map_nil, Option.map_some]
        rw [o_store (by simp only [g_cons, a_tmp, Nat.reduceEqDiff, Nat.succ_ne_zero, if_false, if_true]; rfl)]
        simp only [r_get0, r_set0, List.set_cons_zero, k_seq, k_reg, o_nil, g_cons, p_none, a_tmp, wp_ret, q_thenN, q_thenR, q_blkR, Nat.reduceEqDiff, Nat.reduceAdd, Nat.succ_ne_zero, AV.cells?, List.length_cons, List.length_nil, Nat.zero_add, List.getElem?_cons_zero, List.drop_succ_cons, List.take_zero, putAt, List.nil_append, List.drop_nil, List.append_nil, Nat.le_refl, true_and, and_true, if_false, if_true]
        refine fin_cell (v := .agg [.sc (.int .i64 0), .sl true []]) (.inr rfl) (by simp only [r_get0, g_cons, Nat.reduceEqDiff, Nat.reduceAdd, Nat.succ_ne_zero, ld_ref, List.length_cons, List.length_nil, Nat.zero_add, partA, List.getElem?_cons_zero, List.drop_zero, List.take_succ_cons, List.take_zero, Nat.le_refl, if_false, if_true]) ?_
        simp only [termR, hu, ne_eq, not_true_eq_false, if_false]
        refine fin_rN (bs := bs) (r := ⟨at0, 0⟩) (r' := ⟨at0, e⟩) ?_
        exact ⟨by rw [fin_agg (xs := []) (by rw [frzC_sl]; rfl)]; rfl, rfl⟩
      | ok q =>
        obtain ⟨f, k⟩ := q
        have hn := intR_lt hr hu
        simp only at hn
        simp only [intV, c213r2, k_drw, d_nil, d_mov, d_ext, k_call, k_seq, k_reg, k_some, o_nil, o_mov, o_bin, g_cons, p_some, a_tmp, a_u8_0, wp_seq, wp_reg, wp_block, q_thenN, evQ, binA, binInts, binI, List.map_nil, Nat.reduceEqDiff, Nat.succ_ne_zero, List.getElem?_cons_zero, List.getElem?_cons_succ, if_false, if_true]
        rw [wp_cond (v := false) (by simp only [g_cons, a_tmp, Nat.reduceEqDiff, Nat.succ_ne_zero, if_false, if_true]; rfl)]
        refine ⟨(fun h => by cases h), fun _ => ?_⟩
        by_cases h1 : f < -2147483648
        · have g1 : decide (f < -2147483648) = true := by simpa using h1
          have hc : ¬ (-2147483648 ≤ f ∧ f ≤ 2147483647) := by omega
          simp only [c213r4, g1, k_call, k_seq, k_reg, k_some, k_tf, o_nil, o_grdM, o_mov, o_pick, o_bin, g_cons, p_some, a_tmp, a_bool, a_i64_m2147483648, wp_seq, wp_reg, q_thenN, binA, binInts, binI, Nat.reduceEqDiff, Nat.succ_ne_zero, if_false, if_true]
          rw [wp_cond (v := true) (by simp only [g_cons, a_tmp, Nat.reduceEqDiff, Nat.succ_ne_zero, if_false, if_true])]
          refine ⟨fun _ => ?_, (fun h => by cases h)⟩
          simp only [o_mov, o_call, g_cons, p_some, a_tmp, a_fun, a_u8_7, wp_seq, wp_reg, fn_call, List.map_cons, List.map_nil, Nat.reduceEqDiff, Nat.succ_ne_zero, if_false, if_true]
          refine (RC.at (call239 (bs := bs) (r := ⟨at0, 0⟩) (e := 7) rfl) hi).mono ?_
          rintro x s ⟨rfl, rfl⟩
          simp only [fillA, rdO, k_call, k_seq, k_reg, k_some, o_nil, o_build, p_some, wp_seq, wp_reg, q_thenN, List.map_nil, Option.map_some]
          rw [o_store (by simp only [g_cons, a_tmp, Nat.reduceEqDiff, Nat.succ_ne_zero, if_false, if_true]; rfl)]
          simp only [r_get0, r_set0, List.set_cons_zero, k_seq, k_reg, o_nil, g_cons, p_none, a_tmp, wp_ret, q_thenN, q_thenR, q_blkR, Nat.reduceEqDiff, Nat.reduceAdd, Nat.succ_ne_zero, AV.cells?, List.length_cons, List.length_nil, Nat.zero_add, List.getElem?_cons_zero, List.drop_succ_cons, List.take_zero, putAt, List.nil_append, List.drop_nil, List.append_nil, Nat.le_refl, true_and, and_true, if_false, if_true]
          refine fin_cell (v := .agg [.sc (.int .i64 0), .sl true []]) (.inr rfl) (by simp only [r_get0, g_cons, Nat.reduceEqDiff, Nat.reduceAdd, Nat.succ_ne_zero, ld_ref, List.length_cons, List.length_nil, Nat.zero_add, partA, List.getElem?_cons_zero, List.drop_zero, List.take_succ_cons, List.take_zero, Nat.le_refl, if_false, if_true]) ?_
          simp only [termR, hu, hc, ne_eq, not_true_eq_false, if_false]
          refine fin_rN (bs := bs) (r := ⟨at0, 0⟩) (r' := ⟨at0, 7⟩) ?_
          exact ⟨by rw [fin_agg (xs := []) (by rw [frzC_sl]; rfl)]; rfl, rfl⟩
        have g1 : decide (f < -2147483648) = false := by simpa using h1
        by_cases h2 : f > 2147483647
        · have g2 : decide (f > 2147483647) = true := by simpa using h2
          have hc : ¬ (-2147483648 ≤ f ∧ f ≤ 2147483647) := by omega
          simp only [c213r4, g1, g2, k_call, k_seq, k_reg, k_some, k_ff, k_tf, o_nil, o_grdM, o_mov, o_pick, o_bin, g_cons, p_some, a_tmp, a_bool, a_i64_m2147483648, a_i64_2147483647, wp_seq, wp_reg, q_thenN, binA, binInts, binI, Nat.reduceEqDiff, Nat.succ_ne_zero, Bool.false_eq_true, if_false, if_true]
          rw [wp_cond (v := true) (by simp only [g_cons, a_tmp, Nat.reduceEqDiff, Nat.succ_ne_zero, if_false, if_true])]
          refine ⟨fun _ => ?_, (fun h => by cases h)⟩
          simp only [o_mov, o_call, g_cons, p_some, a_tmp, a_fun, a_u8_7, wp_seq, wp_reg, fn_call, List.map_cons, List.map_nil, Nat.reduceEqDiff, Nat.succ_ne_zero, if_false, if_true]
          refine (RC.at (call239 (bs := bs) (r := ⟨at0, 0⟩) (e := 7) rfl) hi).mono ?_
          rintro x s ⟨rfl, rfl⟩
          simp only [fillA, rdO, k_call, k_seq, k_reg, k_some, o_nil, o_build, p_some, wp_seq, wp_reg, q_thenN, List.map_nil, Option.map_some]
          rw [o_store (by simp only [g_cons, a_tmp, Nat.reduceEqDiff, Nat.succ_ne_zero, if_false, if_true]; rfl)]
          simp only [r_get0, r_set0, List.set_cons_zero, k_seq, k_reg, o_nil, g_cons, p_none, a_tmp, wp_ret, q_thenN, q_thenR, q_blkR, Nat.reduceEqDiff, Nat.reduceAdd, Nat.succ_ne_zero, AV.cells?, List.length_cons, List.length_nil, Nat.zero_add, List.getElem?_cons_zero, List.drop_succ_cons, List.take_zero, putAt, List.nil_append, List.drop_nil, List.append_nil, Nat.le_refl, true_and, and_true, if_false, if_true]
          refine fin_cell (v := .agg [.sc (.int .i64 0), .sl true []]) (.inr rfl) (by simp only [r_get0, g_cons, Nat.reduceEqDiff, Nat.reduceAdd, Nat.succ_ne_zero, ld_ref, List.length_cons, List.length_nil, Nat.zero_add, partA, List.getElem?_cons_zero, List.drop_zero, List.take_succ_cons, List.take_zero, Nat.le_refl, if_false, if_true]) ?_
          simp only [termR, hu, hc, ne_eq, not_true_eq_false, if_false]
          refine fin_rN (bs := bs) (r := ⟨at0, 0⟩) (r' := ⟨at0, 7⟩) ?_
          exact ⟨by rw [fin_agg (xs := []) (by rw [frzC_sl]; rfl)]; rfl, rfl⟩
        have g2 : decide (f > 2147483647) = false := by simpa using h2
        have g3 : decide ((deep : Int) > 256) = false := by simp; omega
        have hc : -2147483648 ≤ f ∧ f ≤ 2147483647 := by omega
        simp only [c213r4, g1, g2, g3, k_call, k_seq, k_reg, k_some, k_ff, o_nil, o_grdM, o_mov, o_pick, o_bin, g_cons, p_some, a_tmp, a_bool, a_i64_256, a_i64_m2147483648, a_i64_2147483647, wp_seq, wp_reg, q_thenN, binA, binInts, binI, Nat.reduceEqDiff, Nat.succ_ne_zero, Bool.false_eq_true, if_false, if_true]
        rw [wp_cond (v := false) (by simp only [g_cons, a_tmp, Nat.reduceEqDiff, Nat.succ_ne_zero, if_false, if_true])]
        refine ⟨(fun h => by cases h), fun _ => ?_⟩
        simp only [c213r5, k_call, k_seq, k_some, o_mov, o_nilck, o_faddr, g_cons, p_some, a_tmp, wp_seq, wp_reg, wp_skip, q_thenN, q_blkN, evQ, Nat.reduceEqDiff, Nat.succ_ne_zero, Nat.zero_add, if_false, if_true]
        rw [o_store (by simp only [g_cons, a_tmp, Nat.reduceEqDiff, Nat.succ_ne_zero, if_false, if_true]; rfl)]
        simp only [c213r6, fillA, r_getI hi, r_setI hi, List.length_set, List.length_append, List.append_assoc, k_call, k_seq, k_reg, k_some, o_nil, o_mov, o_build, o_alloc, g_cons, p_some, p_none, a_tmp, wp_seq, wp_reg, q_thenN, List.map_cons, List.map_nil, Nat.reduceEqDiff, Nat.reduceAdd, Option.map_some, Nat.succ_ne_zero, AV.cells?, List.length_cons, List.length_nil, Nat.zero_add, List.drop_zero, List.drop_succ_cons, List.take_succ_cons, List.take_zero, putAt, List.nil_append, List.cons_append, Nat.reduceLeDiff, true_and, and_true, if_false, if_true]
        rw [o_store (by simp only [g_cons, a_tmp, Nat.reduceEqDiff, Nat.succ_ne_zero, if_false, if_true]; rfl)]
        simp only [r_get, r_set, List.set_cons_zero, List.set_cons_succ, k_call, k_seq, k_reg, k_some, o_nil, o_mov, o_bin, g_cons, p_some, p_none, a_tmp, a_i64_0, wp_seq, wp_reg, q_thenN, binA, binInts, binI, Nat.reduceEqDiff, Nat.reduceAdd, Nat.succ_ne_zero, AV.cells?, List.length_cons, List.length_nil, Nat.zero_add, List.getElem?_cons_zero, List.getElem?_cons_succ, List.drop_succ_cons, List.take_zero, putAt, List.nil_append, List.drop_nil, List.append_nil, Nat.le_refl, true_and, and_true, if_false, if_true]
        rw [wp_cond (v := decide (f < 0)) (by simp only [g_cons, a_tmp, Nat.reduceEqDiff, Nat.succ_ne_zero, if_false, if_true])]
        refine ⟨fun h => ?_, fun h => ?_⟩
        · have hf : f < 0 := by simpa using h
          simp only [r_get, k_call, k_some, o_load, g_cons, p_some, a_tmp, wp_seq, wp_reg, Nat.reduceEqDiff, Nat.reduceAdd, Nat.succ_ne_zero, ld_ref, List.length_cons, List.length_nil, Nat.zero_add, partA, List.getElem?_cons_zero, List.getElem?_cons_succ, List.drop_zero, List.take_succ_cons, List.take_zero, Nat.le_refl, if_false, if_true]
          rw [o_store (by simp only [g_cons, a_tmp, Nat.reduceEqDiff, Nat.succ_ne_zero, if_false, if_true]; rfl)]
          simp only [r_get0, r_set0, List.set_cons_zero, k_seq, k_reg, o_nil, g_cons, p_none, a_tmp, wp_ret, q_thenN, q_thenR, Nat.reduceEqDiff, Nat.reduceAdd, Nat.succ_ne_zero, AV.cells?, List.length_cons, List.length_nil, Nat.zero_add, List.getElem?_cons_zero, List.drop_succ_cons, List.take_zero, putAt, List.nil_append, List.drop_nil, List.append_nil, Nat.le_refl, true_and, and_true, if_false, if_true]
          refine fin_cell (v := .agg [.sc (.int .i64 f), .sl true []]) (.inr rfl) (by simp only [r_get0, g_cons, Nat.reduceEqDiff, Nat.reduceAdd, Nat.succ_ne_zero, ld_ref, List.length_cons, List.length_nil, Nat.zero_add, partA, List.getElem?_cons_zero, List.drop_zero, List.take_succ_cons, List.take_zero, Nat.le_refl, if_false, if_true]) ?_
          simp only [termR, hu, hc, hf, and_self, ne_eq, not_true_eq_false, if_false, if_true]
          refine fin_rN (bs := bs) (r := ⟨at0, 0⟩) (r' := ⟨k, 0⟩) ?_
          exact ⟨by rw [fin_agg (xs := []) (by rw [frzC_sl]; rfl)]; rfl, rfl⟩
        · have hf : ¬ f < 0 := by simpa using h
          have hk0 : (RS.mk k 0).ok bs := hn.2.2
          have hcnt := countR_ok (most := 4096) hk0
          simp only [c213r7, k_seq, o_mov, o_call, g_cons, p_some, a_tmp, a_fun, a_u64_4096, wp_seq, wp_reg, wp_skip, q_thenN, fn_call, List.map_cons, List.map_nil, Nat.reduceEqDiff, Nat.succ_ne_zero, if_false, if_true]
          refine (RC.at (call212 (bs := bs) (r := ⟨k, 0⟩) (most := 4096) hk0 (by omega)) hi).mono ?_
          rintro x s ⟨rfl, rfl⟩
          have hres : termR bs (g + 1) ⟨at0, 0⟩ = (.mk f (manyR (termR bs g) (countR bs 4096 ⟨k, 0⟩).1 (countR bs 4096 ⟨k, 0⟩).2).1, (manyR (termR bs g) (countR bs 4096 ⟨k, 0⟩).1 (countR bs 4096 ⟨k, 0⟩).2).2) := by
            simp only [termR, hu, hc, hf, and_self, ne_eq, not_true_eq_false, if_false, if_true]
          rw [hres]
          generalize countR bs 4096 ⟨k, 0⟩ = cr at hcnt
          obtain ⟨n, r0⟩ := cr
          simp only at hcnt
          simp only [k_call, k_seq, k_reg, o_nil, o_mov, p_some, a_i64_0, wp_block, wp_loop, q_thenN]
          have hFok : ∀ r : RS, r.ok bs → (termR bs g r).2.ok bs := fun r hr => termR_ok hr
          generalize hF : termR bs g = F at hFok
          refine loop_rule (fun (q : Nat × List Tm × RS) E st' => q.1 ≤ n ∧ q.2.2.ok bs ∧ q.2.1.length = q.1 ∧ manyR F n r0 = (q.2.1 ++ (manyR F (n - q.1) q.2.2).1, (manyR F (n - q.1) q.2.2).2) ∧
              ∃ v ext, st' = st.set i (rdO bs q.2.2) ++ .cells [.sc (.int .i64 0), .sl true []] :: .cells [.sc (.int .i64 f), v] :: ext ∧
              E = [(0, .ref i 0), (1, .sc (.int .i64 (deep : Nat))), (4, .ref st.length 0), (8, .ref (st.length + 1) 0), (59, .sc (.int .i64 (n : Nat))), (60, .sc (.int .i64 (q.1 : Nat)))] ∧ IsBuf (st.length + 2) 88 2 st' v (q.2.1.map tmA)) (fun q => n - q.1)
            (0, [], r0) [(0, .ref i 0), (1, .sc (.int .i64 (deep : Nat))), (4, .ref st.length 0), (8, .ref (st.length + 1) 0), (59, .sc (.int .i64 (n : Nat))), (60, .sc (.int .i64 0))] (by simp only [SubE, Int.natCast_zero, g_cons, Nat.reduceEqDiff, Nat.succ_ne_zero, and_true, if_false, if_true]) ⟨Nat.zero_le _, hcnt.1, rfl, by simp, .sl true [], [], rfl, rfl, .inl rfl⟩ ?_
          rintro ⟨k', acc, r⟩ E st' ⟨hk, hrk, hacc, hm, v, ext, rfl, rfl, hv⟩
          simp only at hk hrk hacc hm hv ⊢
          simp only [c213l10, k_call, k_seq, k_reg, k_some, o_nil, o_bin, g_cons, p_some, a_tmp, wp_seq, wp_reg, q_thenN, binA, binInts, binI, Nat.reduceEqDiff, Nat.succ_ne_zero, if_false, if_true]
          rw [wp_cond (v := decide (k' < n)) (by simp only [dec_lt, g_cons, a_tmp, Nat.reduceEqDiff, Nat.succ_ne_zero, if_false, if_true])]
          refine ⟨fun h => ?_, fun h => ?_⟩
          · have hk1 : k' < n := by simpa using h
            obtain ⟨m, hmm⟩ : ∃ m, n - k' = m + 1 := ⟨n - k' - 1, by omega⟩
            rw [hmm] at hm
            simp only [c213r8, r_getI hi, rdO, u8ne, k_call, k_seq, k_reg, k_some, o_nil, o_mov, o_load, o_nilck, o_bin, o_faddr, g_cons, p_some, a_tmp, a_u8_0, wp_seq, wp_reg, wp_skip, wp_block, q_thenN, evQ, binA, binInts, binI, Nat.reduceEqDiff, Nat.reduceAdd, Nat.succ_ne_zero, ld_ref, List.length_cons, List.length_nil, Nat.zero_add, partA, List.getElem?_cons_zero, List.getElem?_cons_succ, List.drop_zero, List.drop_succ_cons, List.take_succ_cons, List.take_zero, Nat.le_refl, Bool.false_eq_true, if_false, if_true]
            rw [wp_cond (v := decide (r.e ≠ 0)) (by simp only [g_cons, a_tmp, Nat.reduceEqDiff, Nat.succ_ne_zero, if_false, if_true])]
            refine ⟨fun h => ?_, fun h => ?_⟩
            · have he : r.e ≠ 0 := by simpa using h
              have hm0 : manyR F (m + 1) r = ([], r) := by simp only [manyR, he, ne_eq, not_false_eq_true, if_true]
              rw [hm0, List.append_nil] at hm
              simp only [r_get, k_call, k_seq, k_reg, k_some, o_nil, o_mov, o_load, o_bin, g_cons, p_some, a_tmp, a_i64_1, wp_seq, wp_reg, wp_exit, q_thenN, q_thenE, q_blkE, q_nxtN, q_nxtE, binA, binInts, binI, Nat.reduceEqDiff, Nat.reduceAdd, Nat.succ_ne_zero, ld_ref, List.length_cons, List.length_nil, Nat.zero_add, partA, List.getElem?_cons_zero, List.getElem?_cons_succ, List.drop_zero, List.take_succ_cons, List.take_zero, Nat.le_refl, true_and, if_false, if_true]
              rw [o_store (by simp only [g_cons, a_tmp, Nat.reduceEqDiff, Nat.succ_ne_zero, if_false, if_true]; rfl)]
              simp only [r_get0, r_set0, List.set_cons_zero, k_seq, k_reg, o_nil, g_cons, p_none, a_tmp, wp_ret, q_thenN, Nat.reduceEqDiff, Nat.reduceAdd, Nat.succ_ne_zero, AV.cells?, List.length_cons, List.length_nil, Nat.zero_add, List.getElem?_cons_zero, List.drop_succ_cons, List.take_zero, putAt, List.nil_append, List.drop_nil, List.append_nil, Nat.le_refl, true_and, and_true, if_false, if_true]
              refine fin_cell (v := .agg [.sc (.int .i64 f), v]) (.inr rfl) (by simp only [r_get0, g_cons, Nat.reduceEqDiff, Nat.reduceAdd, Nat.succ_ne_zero, ld_ref, List.length_cons, List.length_nil, Nat.zero_add, partA, List.getElem?_cons_zero, List.drop_zero, List.take_succ_cons, List.take_zero, Nat.le_refl, if_false, if_true]) ?_
              have hvs : IsBuf (st.length + 2) 88 2 (st.set i (rdO bs r) ++ .cells [.sc (.int .i64 f), v] :: .cells [.sc (.int .i64 f), v] :: ext) v (acc.map tmA) := by
                have := hv.set (j := st.length) (o := .cells [.sc (.int .i64 f), v]) (by omega)
                rwa [r_set0] at this
              refine fin_rN (bs := bs) (r := ⟨at0, 0⟩) (r' := r) ?_
              rw [hm]
              exact ⟨by rw [fin_agg (hvs.frzC (by omega)), tmA, tmAL_map], rfl⟩
            · have he : ¬ r.e ≠ 0 := by simpa using h
              have hm0 : manyR F (m + 1) r = ((F r).1 :: (manyR F m (F r).2).1, (manyR F m (F r).2).2) := by simp only [manyR, he, if_false]
              rw [hm0] at hm
              have hw1 : IntKind.wrap .i64 ((deep : Int) + 1) = ((deep + 1 : Nat) : Int) := wrap_succ (by omega)
              simp only [c213d9, k_drw, wp_draw, d_faddr, k_seq, k_some, g_cons, p_some, a_tmp, wp_skip, q_thenN, evQ, Nat.reduceEqDiff, Nat.succ_ne_zero, Nat.zero_add, if_false, if_true]
              refine d_loadF (v := v) (by simp only [r_get, g_cons, a_tmp, Nat.reduceEqDiff, Nat.reduceAdd, Nat.succ_ne_zero, ld_ref, List.length_cons, List.length_nil, Nat.zero_add, partA, List.getElem?_cons_zero, List.getElem?_cons_succ, List.drop_zero, List.drop_succ_cons, List.take_succ_cons, List.take_zero, Nat.le_refl, Bool.false_eq_true, if_false, if_true]) ?_
              simp only [hw1, k_drw, d_mov, d_bin, k_some, g_cons, p_some, a_tmp, a_i64_1, evQ, binA, binInts, binI, Nat.reduceEqDiff, Nat.reduceAdd, Nat.succ_ne_zero, ld_ref, Nat.zero_add, partA, Bool.false_eq_true, if_false, if_true]
              refine d_call2 (x := tmA (F r).1) (st' := st.set i (rdO bs (F r).2) ++ .cells [.sc (.int .i64 0), .sl true []] :: .cells [.sc (.int .i64 f), v] :: ext) (by simp only [g_cons, a_tmp, a_fun, fn_call, List.map_cons, List.map_nil, Nat.reduceEqDiff, Nat.succ_ne_zero, if_false, if_true]; have := (ih (deep + 1) (by omega) hrk).at (st := st) (B := .cells [.sc (.int .i64 0), .sl true []] :: .cells [.sc (.int .i64 f), v] :: ext) hi; rw [hF] at this; exact this) (fun p hp _ => ?_) ?_
              · simp only [List.mem_singleton] at hp; subst hp
                simp only [r_get, rdO, List.getElem?_cons_zero, List.getElem?_cons_succ]
              rw [d_mksl rfl]
              have hr1 : (F r).2.ok bs := hFok r hrk
              rcases hFr : F r with ⟨⟨G, M⟩, r1⟩
              rw [hFr] at hr1 hm
              simp only at hr1 hm
              refine ⟨by simp only [g_cons, p_some, a_tmp, List.map_cons, List.map_nil, Nat.reduceEqDiff, Nat.succ_ne_zero, if_false, if_true]; exact (by intro x hx; simp only [List.mem_singleton] at hx; subst hx; exact ⟨rfl, rfl⟩), ?_⟩
              simp only [g_cons, p_some, a_tmp, List.map_cons, List.map_nil, Nat.reduceEqDiff, Nat.succ_ne_zero, if_false, if_true]
              have hlen : (st.set i (rdO bs r1) ++ [AO.cells [.sc (.int .i64 0), .sl true []], AO.cells [.sc (.int .i64 f), v]]).length = st.length + 2 := by simp
              have two : ∀ (o : AO) (v : AV) (ext : List AO), st.set i o ++ AO.cells [.sc (.int .i64 0), .sl true []] :: AO.cells [.sc (.int .i64 f), v] :: ext = (st.set i o ++ [AO.cells [.sc (.int .i64 0), .sl true []], AO.cells [.sc (.int .i64 f), v]]) ++ ext := fun o v ext => by rw [List.append_assoc]; rfl
              have hv1 : IsBuf (st.length + 2) 88 2 (st.set i (rdO bs r1) ++ .cells [.sc (.int .i64 0), .sl true []] :: .cells [.sc (.int .i64 f), v] :: ext) v (acc.map tmA) := by
                have := hv.set (j := i) (o := rdO bs r1) (by omega)
                rwa [r_setI hi] at this
              rw [two]
              refine d_app (st0 := st.set i (rdO bs r1) ++ [AO.cells [.sc (.int .i64 0), .sl true []], AO.cells [.sc (.int .i64 f), v]]) (ext := ext) (cur := acc.map tmA) (zs := [tmA (.mk G M)]) ?_ ?_ ?_ ?_ ?_ ?_ ?_ ?_
              · rw [hlen, ← two]; simpa only [k_call, k_seq, k_reg, k_some, k_box, k_tt, k_ff, k_tf, k_ft, k_un, o_nil, o_grdM, Bool.true_eq_false, Bool.not_true, Bool.not_false, o_mov, o_pick, o_build, o_load, o_nilck, o_bin, o_un, o_cvi, o_mkfn, o_faddr, o_slc, o_ext, o_iaddr, o_len, o_alloc, o_box, o_call, o_app, g_cons, p_some, p_none, a_tmp, a_fun, a_bool, a_nil, a_i64_0, a_i64_1, a_i64_2, a_i64_3, a_i64_5, a_i64_7, a_i64_8, a_i64_9, a_i64_10, a_i64_20, a_i64_60, a_i64_256, a_i64_400, a_i64_1000, a_i64_m1000, a_i64_m1, a_i64_2147483648, a_i64_m2147483648, a_i64_2147483647, a_u8_0, a_u8_1, a_u8_7, a_u8_10, a_u8_128, a_u64_0, a_u64_1, a_u64_7, a_u64_63, a_u64_128, a_u64_1048576, a_u64_4096, wp_seq, wp_reg, wp_skip, wp_ret, wp_exit, wp_block, wp_loop, q_thenN, q_thenR, q_thenE, q_blkN, q_blkR, q_blkE, q_nxtN, q_nxtR, q_nxtE, fn_call, evQ, binA, binInts, binI, slen, lenA, natA_nat, natA_0, argE, List.map_cons, List.map_nil, Nat.reduceEqDiff, Nat.reduceAdd, reduceIte, Option.map_some, Option.map_none, Option.isSome_some, Option.isSome_none, Nat.succ_ne_zero, ld_ref, get_last, get_last2, get_mid, get_mid1, get_mid2, set_last, set_last2, set_mid, AV.cells?, List.length_cons, List.length_nil, Nat.zero_add, partA, List.getElem?_cons_zero, List.getElem?_cons_succ, List.drop_zero, List.drop_succ_cons, List.take_succ_cons, List.take_zero, putAt, List.nil_append, List.cons_append, List.drop_nil, List.append_nil, Nat.reduceLeDiff, Nat.le_refl, true_and, and_true, Bool.false_eq_true, if_false, if_true] using hv1
              · simp only [g_cons, a_tmp, Nat.reduceEqDiff, Nat.succ_ne_zero, if_false, if_true]; rfl
              · exact (by intro x hx; simp only [List.mem_singleton] at hx; subst hx; exact ⟨rfl, rfl⟩)
              · exact fun x hx => by obtain ⟨⟨_, _⟩, _, rfl⟩ := List.mem_map.1 hx; rfl
              · simp only [List.length_map, List.length_singleton, hacc]; omega
              · simp only [List.length_map, List.length_singleton, hacc]; omega
              · intro ext' p hp h0
                simp at hp; subst hp; simp at h0
              intro v' ext' hv'
              rw [hlen, ← two] at hv'
              rw [← two]
              simp only [List.append_assoc, rdO, k_drw, d_faddr, k_some, g_cons, p_some, a_tmp, evQ, List.map_cons, List.map_nil, Nat.reduceEqDiff, Nat.succ_ne_zero, Nat.zero_add, List.nil_append, List.cons_append, if_false, if_true]
              refine d_store (j := st.length + 1) (off := 1) (vs := [v']) (cs := [.sc (.int .i64 f), v]) (by simp only [g_cons, a_tmp, Nat.reduceEqDiff, Nat.succ_ne_zero, if_false, if_true]) (by simp only [g_cons, a_tmp, Nat.reduceEqDiff, Nat.succ_ne_zero, AV.cells?, if_false, if_true]; exact hv'.cells) (by simp only [r_get, List.getElem?_cons_zero, List.getElem?_cons_succ]) ⟨rfl, by simp⟩ (fun p hp h0 => ?_) ?_
              · simp at hp; subst hp; simp at h0
              have hv2 := hv'.set (j := st.length + 1) (o := .cells [.sc (.int .i64 f), v']) (by omega)
              rw [r_set] at hv2
              simp only [List.set_cons_zero, List.set_cons_succ] at hv2
              simp only [wrap_succ (show k' < 9223372036854775807 by omega), r_set, List.set_cons_zero, List.set_cons_succ, d_nil, k_call, k_seq, k_reg, k_some, o_nil, o_mov, o_bin, g_cons, p_some, p_none, a_tmp, a_i64_1, wp_reg, q_thenN, q_blkN, q_nxtN, binA, binInts, binI, List.map_cons, List.map_nil, Nat.reduceEqDiff, Nat.reduceAdd, Nat.succ_ne_zero, List.length_cons, List.length_nil, Nat.zero_add, List.drop_succ_cons, List.take_succ_cons, List.take_zero, putAt, List.nil_append, List.cons_append, List.drop_nil, List.append_nil, true_and, if_false, if_true]
              refine ⟨_, (?_ : SubE [(0, _), (1, _), (4, _), (8, _), (59, _), (60, _)] _), (k' + 1, acc ++ [.mk G M], r1), by simp only; omega, by simp only; omega, hr1, by simp [hacc], ?_, v', ext', rfl, rfl, ?_⟩
              · simp only [SubE, g_cons, Nat.reduceEqDiff, Nat.succ_ne_zero, and_true, if_false, if_true]
              · simp only [show n - (k' + 1) = m by omega, List.append_assoc, List.singleton_append]; exact hm
              · simp only [List.map_append]; exact hv2
          · have hk0 : n - k' = 0 := by have : ¬ k' < n := by simpa using h
                                        omega
            rw [hk0] at hm
            simp only [manyR, List.append_nil] at hm
            simp only [r_get, rdO, k_call, k_seq, k_some, o_load, g_cons, p_some, a_tmp, wp_seq, wp_reg, wp_exit, q_thenN, q_thenE, q_blkE, q_nxtE, Nat.reduceEqDiff, Nat.reduceAdd, Nat.succ_ne_zero, ld_ref, List.length_cons, List.length_nil, Nat.zero_add, partA, List.getElem?_cons_zero, List.getElem?_cons_succ, List.drop_zero, List.take_succ_cons, List.take_zero, Nat.le_refl, if_false, if_true]
            rw [o_store (by simp only [g_cons, a_tmp, Nat.reduceEqDiff, Nat.succ_ne_zero, if_false, if_true]; rfl)]
            simp only [r_get0, r_set0, List.set_cons_zero, k_seq, k_reg, o_nil, g_cons, p_none, a_tmp, wp_ret, q_thenN, Nat.reduceEqDiff, Nat.reduceAdd, Nat.succ_ne_zero, AV.cells?, List.length_cons, List.length_nil, Nat.zero_add, List.getElem?_cons_zero, List.drop_succ_cons, List.take_zero, putAt, List.nil_append, List.drop_nil, List.append_nil, Nat.le_refl, true_and, and_true, if_false, if_true]
            refine fin_cell (v := .agg [.sc (.int .i64 f), v]) (.inr rfl) (by simp only [r_get0, g_cons, Nat.reduceEqDiff, Nat.reduceAdd, Nat.succ_ne_zero, ld_ref, List.length_cons, List.length_nil, Nat.zero_add, partA, List.getElem?_cons_zero, List.drop_zero, List.take_succ_cons, List.take_zero, Nat.le_refl, if_false, if_true]) ?_
            have hvs : IsBuf (st.length + 2) 88 2 (st.set i (rdO bs r) ++ .cells [.sc (.int .i64 f), v] :: .cells [.sc (.int .i64 f), v] :: ext) v (acc.map tmA) := by
              have := hv.set (j := st.length) (o := .cells [.sc (.int .i64 f), v]) (by omega)
              rwa [r_set0] at this
            refine fin_rN (bs := bs) (r := ⟨at0, 0⟩) (r' := r) ?_
            rw [hm]
            exact ⟨by rw [fin_agg (hvs.frzC (by omega)), tmA, tmAL_map], rfl⟩
end Go.AW
