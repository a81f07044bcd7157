/-
  The walks through the codec, part three.
-/
import Derived.Test.YtkpnemmniepchaaGreatY2
/-
  Clauses, read.
-/
namespace Go.AW
open Go Go.RowKit Go.Proofs
set_option linter.unusedVariables false
set_option linter.unusedSimpArgs false
set_option maxRecDepth 100000

def litsR (bs : List UInt8) : Nat → RS → List Li × RS
  | 0, r => ([], r)
  | n + 1, r =>
    if (termR bs 257 (termR bs 257 (countR bs 1 r).2).2).2.e ≠ 0 then ([], (termR bs 257 (termR bs 257 (countR bs 1 r).2).2).2)
    else (⟨((countR bs 1 r).1 : Int) == 1, (termR bs 257 (countR bs 1 r).2).1, (termR bs 257 (termR bs 257 (countR bs 1 r).2).2).1⟩ :: (litsR bs n (termR bs 257 (termR bs 257 (countR bs 1 r).2).2).2).1,
      (litsR bs n (termR bs 257 (termR bs 257 (countR bs 1 r).2).2).2).2)
def clauseR (bs : List UInt8) (a : Nat) : Except Nat (List Li × Nat) :=
  if (litsR bs (countR bs 4096 ⟨a, 0⟩).1 (countR bs 4096 ⟨a, 0⟩).2).2.e ≠ 0 then .error (litsR bs (countR bs 4096 ⟨a, 0⟩).1 (countR bs 4096 ⟨a, 0⟩).2).2.e
  else .ok ((litsR bs (countR bs 4096 ⟨a, 0⟩).1 (countR bs 4096 ⟨a, 0⟩).2).1, (litsR bs (countR bs 4096 ⟨a, 0⟩).1 (countR bs 4096 ⟨a, 0⟩).2).2.at_)
def getV : Except Nat (List Li × Nat) → AV
  | .ok (c, k) => .tup [.sl false (c.map liA), .sc (.int .i64 (k : Nat)), .sc (.int .u8 0)]
  | .error e => .tup [.sl false [], .sc (.int .i64 0), .sc (.int .u8 (e : Nat))]

theorem litsR_ok {bs : List UInt8} : ∀ {n : Nat} {r : RS}, r.ok bs → (litsR bs n r).2.ok bs
  | 0, r, h => h
  | n + 1, r, h => by
    have h3 : (termR bs 257 (termR bs 257 (countR bs 1 r).2).2).2.ok bs := termR_ok (termR_ok (countR_ok h).1)
    simp only [litsR]
    split
    · exact h3
    · exact litsR_ok h3

theorem fin_tup3 {st' : List AO} {m : Nat} {v : AV} {a b : Value} {xs : List AV} (h : (v.frzC st' m).nrmC = .sl false xs) (hv : v.cells? = some [v]) (hn : ∀ cs, v ≠ .agg cs) : ((AV.tup [v, .sc a, .sc b]).frz st' m).nrmT = .tup [.sl false xs, .sc a, .sc b] := by
  have h1 : v.frzV st' m = v.frzC st' m := by
    cases v <;> first | rfl | exact absurd rfl (hn _)
  have h2 : ∀ y : AV, y.nrmC = .sl false xs → y.nrm = .sl false xs := by
    intro y hy
    cases y <;> first | exact hy | cases hy
  simp only [AV.frz, AV.nrmT, List.map_cons, List.map_nil, h1, h2 _ h]
  simp only [AV.frzV, frzC_sc]; rfl

set_option maxHeartbeats 4000000 in
theorem call169 {st : List AO} {bs : List UInt8} {a : Nat} (ha : a ≤ bs.length) : ACall Tryz.prog 169 [bA bs, .sc (.int .i64 (a : Nat))] st (fun x s => x = getV (clauseR bs a) ∧ s = st) := by
  refine acall_t t169 (by simp) ?_
  simp only [c169, c169r0, c169r1, bA, fillA, k_call, k_seq, k_reg, k_some, k_box, o_nil, o_mov, o_build, o_box, g_cons, p_some, a_tmp, a_nil, a_i64_0, a_u8_0, wp_seq, wp_reg, q_thenN, argE, List.map_cons, List.map_nil, Nat.reduceEqDiff, Nat.reduceAdd, Option.map_some, Nat.succ_ne_zero, AV.cells?, List.length_cons, List.length_nil, Nat.zero_add, List.drop_zero, List.drop_succ_cons, List.take_succ_cons, List.take_zero, List.nil_append, List.cons_append, Nat.reduceLeDiff, and_true, if_false, if_true]
  have hres : clauseR bs a = if (litsR bs (countR bs 4096 ⟨a, 0⟩).1 (countR bs 4096 ⟨a, 0⟩).2).2.e ≠ 0 then .error (litsR bs (countR bs 4096 ⟨a, 0⟩).1 (countR bs 4096 ⟨a, 0⟩).2).2.e
    else .ok ((litsR bs (countR bs 4096 ⟨a, 0⟩).1 (countR bs 4096 ⟨a, 0⟩).2).1, (litsR bs (countR bs 4096 ⟨a, 0⟩).1 (countR bs 4096 ⟨a, 0⟩).2).2.at_) := rfl
  obtain ⟨S, hSl, hS⟩ : ∃ S : List AO, S.length = st.length + 1 ∧ ∀ o, S.set st.length o = st ++ [o] := ⟨st ++ [.dead], by simp, fun o => set_last⟩
  have hi : st.length < S.length := by omega
  have h0 : st ++ [AO.cells [.sl false (bs.map u8A), .sc (.int .i64 (a : Nat)), .sc (.int .u8 0)]] = S.set st.length (rdO bs ⟨a, 0⟩) := by rw [hS]; rfl
  rw [h0]
  have ha0 : (RS.mk a 0).ok bs := ha
  have hcnt := countR_ok (most := 4096) ha0
  simp only [c169r2, o_mov, o_call, g_cons, p_some, a_tmp, a_fun, a_u64_4096, fn_call, List.map_cons, List.map_nil, Nat.reduceEqDiff, Nat.succ_ne_zero, if_false, if_true]
  refine (call212 (bs := bs) (r := ⟨a, 0⟩) (most := 4096) ha0 (by omega) S st.length hi).mono ?_
  rintro x s ⟨rfl, rfl⟩
  rw [hres]
  generalize countR bs 4096 ⟨a, 0⟩ = cr at hcnt
  obtain ⟨n, r0⟩ := cr
  simp only at hcnt
  simp only [k_call, k_seq, k_reg, o_nil, o_mov, p_some, a_i64_0, wp_block, wp_loop, q_thenN]
  refine loop_rule (fun (q : Nat × List Li × RS) E st' => q.1 ≤ n ∧ q.2.2.ok bs ∧ q.2.1.length = q.1 ∧ litsR bs n r0 = (q.2.1 ++ (litsR bs (n - q.1) q.2.2).1, (litsR bs (n - q.1) q.2.2).2) ∧
      ∃ v ext, st' = S.set st.length (rdO bs q.2.2) ++ ext ∧ E = [(7, .ref st.length 0), (8, v), (16, .sc (.int .i64 (n : Nat))), (17, .sc (.int .i64 (q.1 : Nat)))] ∧ IsBuf S.length 90 5 st' v (q.2.1.map liA)) (fun q => n - q.1)
    (0, [], r0) [(7, .ref st.length 0), (8, .sl true []), (16, .sc (.int .i64 (n : Nat))), (17, .sc (.int .i64 0))] (by simp only [SubE, g_cons, Nat.reduceEqDiff, Nat.succ_ne_zero, and_true, if_false, if_true]) ⟨Nat.zero_le _, hcnt.1, rfl, by simp, .sl true [], [], by simp, rfl, .inl rfl⟩ ?_
  rintro ⟨k', acc, r⟩ E st' ⟨hk, hrk, hacc, hm, v, ext, rfl, rfl, hv⟩
  simp only at hk hrk hacc hm hv ⊢
  -- what comes behind the loop
  have leave : ∀ (r : RS) (v : AV) (ext : List AO) (acc : List Li) (E : Env), litsR bs n r0 = (acc, r) → E.get 7 = .ref st.length 0 → E.get 8 = v → IsBuf S.length 90 5 (S.set st.length (rdO bs r) ++ ext) v (acc.map liA) →
      wpC Tryz.prog 53 none (.seq (.seq (.reg c169r9) (.cond (.tmp 43) (.seq (.draw c169d10) .ret) .skip)) (.seq (.draw c169d11) .ret)) E [] (S.set st.length (rdO bs r) ++ ext)
        (FinQ [.tmp 4, .tmp 5, .tmp 6] st (fun x s => x = getV (if (litsR bs n r0).2.e ≠ 0 then .error (litsR bs n r0).2.e else .ok ((litsR bs n r0).1, (litsR bs n r0).2.at_)) ∧ s = st)) := by
    intro r v ext acc E hm hE7 hE8 hv
    simp only [c169r9, hE7, r_getI hi, rdO, u8ne, k_call, k_seq, k_reg, k_some, o_nil, o_mov, o_load, o_nilck, o_bin, o_faddr, g_cons, p_some, a_tmp, a_u8_0, wp_seq, wp_reg, q_thenN, evQ, binA, binInts, binI, Nat.reduceEqDiff, Nat.reduceAdd, ld_ref, List.length_cons, List.length_nil, Nat.zero_add, partA, List.getElem?_cons_zero, List.getElem?_cons_succ, List.drop_zero, List.drop_succ_cons, List.take_succ_cons, List.take_zero, Nat.le_refl, Bool.false_eq_true, if_false, if_true]
    rw [wp_cond (v := decide (r.e ≠ 0)) (by simp only [g_cons, a_tmp, Nat.reduceEqDiff, if_false, if_true])]
    rw [hm]
    refine ⟨fun h => ?_, fun h => ?_⟩
    · have he : r.e ≠ 0 := by simpa using h
      simp only [c169d10, hE7, r_getI hi, k_drw, wp_draw, d_nil, d_mov, d_nilck, d_faddr, d_load, k_seq, k_reg, k_some, g_cons, p_some, a_tmp, a_nil, a_i64_0, wp_seq, wp_ret, q_thenN, q_thenR, evQ, Nat.reduceEqDiff, Nat.reduceAdd, ld_ref, List.length_cons, List.length_nil, Nat.zero_add, partA, List.getElem?_cons_zero, List.getElem?_cons_succ, List.drop_zero, List.drop_succ_cons, List.take_succ_cons, List.take_zero, Nat.le_refl, Bool.false_eq_true, if_false, if_true]
      refine fin_tmp3 (.inr rfl) ?_
      simp only [he, getV, ne_eq, not_false_eq_true, g_cons, Nat.reduceEqDiff, if_false, if_true]
      rw [hS, List.append_assoc]
      refine fin_preN ⟨_, rfl⟩ ⟨?_, rfl⟩
      exact fin_tup3 (xs := []) (by rw [frzC_sl]; rfl) rfl (fun _ h => by cases h)
    · have he : ¬ r.e ≠ 0 := by simpa using h
      simp only [k_seq, wp_seq, wp_skip, q_thenN]
      simp only [c169d11, hE7, hE8, r_getI hi, k_drw, wp_draw, d_nil, d_mov, d_nilck, d_faddr, d_load, k_seq, k_reg, k_some, g_cons, p_some, a_tmp, a_u8_0, wp_ret, q_thenN, evQ, Nat.reduceEqDiff, Nat.reduceAdd, ld_ref, List.length_cons, List.length_nil, Nat.zero_add, partA, List.getElem?_cons_zero, List.getElem?_cons_succ, List.drop_zero, List.drop_succ_cons, List.take_succ_cons, List.take_zero, Nat.reduceLeDiff, Bool.false_eq_true, if_false, if_true]
      refine fin_tmp3 (.inr rfl) ?_
      simp only [he, getV, g_cons, Nat.reduceEqDiff, if_false, if_true]
      have hv' := hv
      rw [hS, List.append_assoc] at hv'
      have e1 : S.set st.length (AO.cells [bA bs, AV.sc (Value.int IntKind.i64 r.at_), AV.sc (Value.int IntKind.u8 r.e)]) = st ++ [rdO bs r] := hS _
      rw [e1, List.append_assoc]
      refine fin_preN ⟨_, rfl⟩ ⟨?_, rfl⟩
      exact fin_tup3 (hv'.frzC (by omega)) hv'.cells (fun cs h => by rcases hv' with h1 | ⟨_, _, h1, _⟩ <;> (rw [h1] at h; cases h))
  simp only [c169l8, k_call, k_seq, k_reg, k_some, o_nil, o_bin, g_cons, p_some, a_tmp, wp_seq, wp_reg, q_thenN, binA, binInts, binI, Nat.reduceEqDiff, if_false, if_true]
  rw [wp_cond (v := decide (k' < n)) (by simp only [dec_lt, g_cons, a_tmp, Nat.reduceEqDiff, if_false, if_true])]
  refine ⟨fun h => ?_, fun h => ?_⟩
  · have hk1 : k' < n := by simpa using h
    obtain ⟨m, hmm⟩ : ∃ m, n - k' = m + 1 := ⟨n - k' - 1, by omega⟩
    rw [hmm] at hm
    have hc1 := countR_ok (most := 1) hrk
    have ht1 := termR_ok (g := 257) hc1.1
    have ht2 := termR_ok (g := 257) ht1
    have hL : litsR bs (m + 1) r = if (termR bs 257 (termR bs 257 (countR bs 1 r).2).2).2.e ≠ 0 then ([], (termR bs 257 (termR bs 257 (countR bs 1 r).2).2).2)
      else (⟨((countR bs 1 r).1 : Int) == 1, (termR bs 257 (countR bs 1 r).2).1, (termR bs 257 (termR bs 257 (countR bs 1 r).2).2).1⟩ :: (litsR bs m (termR bs 257 (termR bs 257 (countR bs 1 r).2).2).2).1,
        (litsR bs m (termR bs 257 (termR bs 257 (countR bs 1 r).2).2).2).2) := rfl
    rw [hL] at hm
    simp only [c169r3, k_seq, o_mov, o_call, g_cons, p_some, a_tmp, a_fun, a_u64_1, wp_seq, wp_reg, wp_skip, wp_block, q_thenN, fn_call, List.map_cons, List.map_nil, Nat.reduceEqDiff, if_false, if_true]
    refine (RC.at (call212 (bs := bs) (r := r) (most := 1) hrk (by omega)) hi).mono ?_
    rintro x s ⟨rfl, rfl⟩
    have hA := call213 (bs := bs) 257 0 rfl hc1.1
    have hB := call213 (bs := bs) 257 0 rfl ht1
    generalize countR bs 1 r = c1 at *
    obtain ⟨sg, r1⟩ := c1
    simp only at *
    simp only [c169r4, k_call, k_seq, k_reg, k_some, o_nil, o_mov, o_bin, o_call, g_cons, p_some, a_tmp, a_fun, a_i64_0, a_i64_1, wp_seq, wp_reg, q_thenN, fn_call, binA, binInts, binI, List.map_cons, List.map_nil, Nat.reduceEqDiff, if_false, if_true]
    refine (RC.at hA hi).mono ?_
    rintro x s ⟨rfl, rfl⟩
    generalize termR bs 257 r1 = p1 at *
    obtain ⟨⟨F, L⟩, r2⟩ := p1
    simp only at *
    simp only [tmA, fillA, k_call, k_some, o_build, o_alloc, g_cons, p_some, a_tmp, List.map_cons, List.map_nil, Nat.reduceEqDiff, Nat.reduceAdd, Option.map_some, AV.cells?, List.length_cons, List.length_nil, Nat.zero_add, List.drop_zero, List.drop_succ_cons, List.take_succ_cons, List.take_zero, List.nil_append, List.cons_append, Nat.reduceLeDiff, and_true, if_false, if_true]
    rw [o_store (by simp only [g_cons, a_tmp, Nat.reduceEqDiff, if_false, if_true]; rfl)]
    simp only [c169r5, r_get, r_set, List.length_set, List.length_append, List.append_assoc, rdO, k_seq, k_reg, o_nil, o_mov, o_call, g_cons, p_some, p_none, a_tmp, a_fun, a_i64_0, wp_seq, wp_reg, q_thenN, fn_call, List.map_cons, List.map_nil, Nat.reduceEqDiff, Nat.reduceAdd, get_last, set_last, AV.cells?, List.length_cons, List.length_nil, Nat.zero_add, List.drop_succ_cons, List.take_zero, putAt, List.nil_append, List.drop_nil, List.append_nil, Nat.le_refl, true_and, and_true, if_false, if_true]
    refine (RC.at hB hi).mono ?_
    rintro x s ⟨rfl, rfl⟩
    generalize termR bs 257 r2 = p2 at *
    obtain ⟨⟨G, M⟩, r3⟩ := p2
    simp only at *
    simp only [tmA, rdO, k_call, k_some, o_faddr, g_cons, p_some, a_tmp, evQ, Nat.reduceEqDiff, Nat.zero_add, if_false, if_true]
    rw [o_store (by simp only [g_cons, a_tmp, Nat.reduceEqDiff, if_false, if_true]; rfl)]
    simp only [c169r6, r_getI hi, r_get, r_set, u8ne, k_call, k_seq, k_reg, k_some, o_nil, o_mov, o_load, o_nilck, o_bin, o_faddr, g_cons, p_some, p_none, a_tmp, a_u8_0, wp_seq, wp_reg, q_thenN, evQ, binA, binInts, binI, Nat.reduceEqDiff, Nat.reduceAdd, ld_ref, get_last, set_last, AV.cells?, List.length_cons, List.length_nil, Nat.zero_add, partA, List.getElem?_cons_zero, List.getElem?_cons_succ, List.drop_zero, List.drop_succ_cons, List.take_succ_cons, List.take_zero, putAt, List.nil_append, List.cons_append, List.drop_nil, List.append_nil, Nat.le_refl, true_and, and_true, Bool.false_eq_true, if_false, if_true]
    rw [wp_cond (v := decide (r3.e ≠ 0)) (by simp only [g_cons, a_tmp, Nat.reduceEqDiff, if_false, if_true])]
    have hv1 : IsBuf S.length 90 5 (S.set st.length (rdO bs r3) ++ (ext ++ [AO.cells [.sc (.bool ((sg : Int) == 1)), .sc (.int .i64 F), .sl false (tmAL L), .sc (.int .i64 G), .sl false (tmAL M)]])) v (acc.map liA) := by
      have := hv.set (j := st.length) (o := rdO bs r3) hi
      rw [r_setI hi] at this
      exact this.push
    refine ⟨fun h => ?_, fun h => ?_⟩
    · have he : r3.e ≠ 0 := by simpa using h
      simp only [he, ne_eq, not_false_eq_true, if_true, List.append_nil] at hm
      simp only [wp_exit, q_thenE, q_nxtE, q_blkE, q_thenN, k_seq, Nat.reduceEqDiff, if_true, if_false]
      exact leave r3 v _ acc _ hm (by simp only [g_cons, Nat.reduceEqDiff, if_false, if_true]) (by simp only [g_cons, Nat.reduceEqDiff, if_false, if_true]) hv1
    · have he : ¬ r3.e ≠ 0 := by simpa using h
      rw [if_neg he] at hm
      simp only [c169r7, r_get, k_call, k_seq, k_some, o_mov, o_load, g_cons, p_some, a_tmp, wp_reg, wp_skip, q_thenN, Nat.reduceEqDiff, Nat.reduceAdd, ld_ref, get_last, List.length_cons, List.length_nil, Nat.zero_add, partA, List.getElem?_cons_zero, List.drop_zero, List.take_succ_cons, List.take_zero, Nat.le_refl, if_false, if_true]
      rw [o_mksl (by intro y hy; simp only [List.mem_singleton] at hy; subst hy; simp only [g_cons, a_tmp, Nat.reduceEqDiff, if_false, if_true]; rfl)]
      simp only [o_app, g_cons, p_some, a_tmp, List.map_cons, List.map_nil, Nat.reduceEqDiff, if_false, if_true]
      refine ⟨(by intro x hx; simp only [List.mem_singleton] at hx; subst hx; exact ⟨rfl, rfl⟩), ?_⟩
      have hlS : (S.set st.length (rdO bs r3)).length = S.length := List.length_set
      refine app_buf (st0 := S.set st.length (rdO bs r3)) (cur := acc.map liA) (zs := [liA ⟨(sg : Int) == 1, .mk F L, .mk G M⟩]) ?_ ?_ ?_ ?_ ?_ ?_ ?_
      · rw [hlS]; simp only [g_cons, a_tmp, Nat.reduceEqDiff, if_false, if_true]; exact hv1
      · simp only [g_cons, a_tmp, Nat.reduceEqDiff, if_false, if_true]; rfl
      · exact (by intro x hx; simp only [List.mem_singleton] at hx; subst hx; exact ⟨rfl, rfl⟩)
      · exact li_cells
      · simp only [List.length_map, List.length_singleton, hacc]; omega
      · simp only [List.length_map, List.length_singleton, hacc]; omega
      intro v' ext' hv'
      rw [hlS] at hv'
      simp only [wrap_succ (show k' < 9223372036854775807 by omega), k_call, k_seq, k_reg, k_some, o_nil, o_mov, o_bin, g_cons, p_some, a_tmp, a_i64_1, wp_reg, q_thenN, q_blkN, q_nxtN, binA, binInts, binI, Nat.reduceEqDiff, true_and, if_false, if_true]
      refine ⟨_, (?_ : SubE [(7, _), (8, _), (16, _), (17, _)] _), (k' + 1, acc ++ [⟨(sg : Int) == 1, .mk F L, .mk G M⟩], r3), by simp only; omega, by simp only; omega, ht2, by simp [hacc], ?_, v', ext', rfl, rfl, ?_⟩
      · simp only [SubE, g_cons, Nat.reduceEqDiff, and_true, if_false, if_true]
      · simp only [show n - (k' + 1) = m by omega, List.append_assoc, List.singleton_append]; exact hm
      · simp only [List.map_append]; exact hv'
  · have hk0 : n - k' = 0 := by have : ¬ k' < n := by simpa using h
                                omega
    rw [hk0] at hm
    simp only [litsR, List.append_nil] at hm
    simp only [wp_exit, q_thenE, q_nxtE, q_blkE, q_thenN, k_seq, if_true]
    exact leave r v ext acc _ hm (by simp only [g_cons, Nat.reduceEqDiff, if_false, if_true]) (by simp only [g_cons, Nat.reduceEqDiff, if_false, if_true]) hv
end Go.AW

/-
  Nodes and events, read.
-/
namespace Go.AW
open Go Go.RowKit Go.Proofs
set_option linter.unusedVariables false
set_option linter.unusedSimpArgs false
set_option maxRecDepth 100000

theorem clauseR_err {bs : List UInt8} {a e : Nat} (h : clauseR bs a = .error e) : e ≠ 0 := by
  unfold clauseR at h
  split at h
  · rename_i he; injection h with h; subst h; exact he
  · cases h
theorem clauseR_lt {bs : List UInt8} {a k : Nat} {c : List Li} (ha : a ≤ bs.length) (h : clauseR bs a = .ok (c, k)) : k ≤ bs.length := by
  unfold clauseR at h
  split at h
  · cases h
  · injection h with h; injection h with h1 h2
    subst h2
    exact litsR_ok (countR_ok (show (RS.mk a 0).ok bs from ha)).1

def nd0 : Nd := ⟨0, 0, 0, 0, []⟩
def nodeR (bs : List UInt8) (r : RS) : Nd × RS :=
  if (numR bs (numR bs (numR bs (numR bs r).2).2).2).2.e ≠ 0 then (nd0, (numR bs (numR bs (numR bs (numR bs r).2).2).2).2)
  else match clauseR bs (numR bs (numR bs (numR bs (numR bs r).2).2).2).2.at_ with
    | .error e => (⟨(numR bs r).1, (numR bs (numR bs r).2).1, (numR bs (numR bs (numR bs r).2).2).1, (numR bs (numR bs (numR bs (numR bs r).2).2).2).1, []⟩, ⟨(numR bs (numR bs (numR bs (numR bs r).2).2).2).2.at_, e⟩)
    | .ok (c, k) => (⟨(numR bs r).1, (numR bs (numR bs r).2).1, (numR bs (numR bs (numR bs r).2).2).1, (numR bs (numR bs (numR bs (numR bs r).2).2).2).1, c⟩, ⟨k, 0⟩)
theorem nodeR_ok {bs : List UInt8} {r : RS} (h : r.ok bs) : (nodeR bs r).2.ok bs := by
  have h4 : (numR bs (numR bs (numR bs (numR bs r).2).2).2).2.ok bs := numR_ok (numR_ok (numR_ok (numR_ok h)))
  unfold nodeR
  split
  · exact h4
  · split
    · exact h4
    · rename_i c k hc; exact clauseR_lt h4 hc

theorem frz_ndA {st' : List AO} {m : Nat} {a b c d : Int} {fl : Bool} {xs : List AV} : ((AV.agg [.sc (.int .i64 a), .sc (.int .i64 b), .sc (.int .i64 c), .sc (.int .i64 d), .sl fl xs]).frz st' m).nrmT = .agg [.sc (.int .i64 a), .sc (.int .i64 b), .sc (.int .i64 c), .sc (.int .i64 d), .sl false xs] := by
  simp only [AV.frz, AV.frzV, AV.nrmT, AV.nrm, List.map_cons, List.map_nil, frzC_sl, frzC_sc]; rfl

set_option maxHeartbeats 4000000 in
theorem call116 {bs : List UInt8} {r : RS} (hr : r.ok bs) : RC 116 bs [] r (ndA (nodeR bs r).1) (nodeR bs r).2 := by
  intro st i hi
  have k1 := numR_ok hr
  have k2 := numR_ok k1
  have k3 := numR_ok k2
  have k4 := numR_ok k3
  have c1 := call117 hr
  have c2 := call117 k1
  have c3 := call117 k2
  have c4 := call117 k3
  have hN : nodeR bs r = if (numR bs (numR bs (numR bs (numR bs r).2).2).2).2.e ≠ 0 then (nd0, (numR bs (numR bs (numR bs (numR bs r).2).2).2).2)
    else match clauseR bs (numR bs (numR bs (numR bs (numR bs r).2).2).2).2.at_ with
      | .error e => (⟨(numR bs r).1, (numR bs (numR bs r).2).1, (numR bs (numR bs (numR bs r).2).2).1, (numR bs (numR bs (numR bs (numR bs r).2).2).2).1, []⟩, ⟨(numR bs (numR bs (numR bs (numR bs r).2).2).2).2.at_, e⟩)
      | .ok (c, k) => (⟨(numR bs r).1, (numR bs (numR bs r).2).1, (numR bs (numR bs (numR bs r).2).2).1, (numR bs (numR bs (numR bs (numR bs r).2).2).2).1, c⟩, ⟨k, 0⟩) := rfl
  refine acall_t t116 (by simp) ?_
  rw [hN]
  simp only [c116, c116r0, List.length_set, k_seq, k_reg, o_nil, o_mov, o_alloc, o_call, g_cons, p_some, a_tmp, a_fun, wp_seq, wp_reg, q_thenN, fn_call, argE, List.map_cons, List.map_nil, Nat.reduceEqDiff, Nat.succ_ne_zero, if_false, if_true]
  refine (RC.at c1 hi).mono ?_
  rintro x s ⟨rfl, rfl⟩
  simp only [k_call, o_mov, o_call, g_cons, p_some, a_tmp, a_fun, fn_call, List.map_cons, List.map_nil, Nat.reduceEqDiff, Nat.succ_ne_zero, if_false, if_true]
  refine (RC.at c2 hi).mono ?_
  rintro x s ⟨rfl, rfl⟩
  simp only [k_call, o_mov, o_call, g_cons, p_some, a_tmp, a_fun, fn_call, List.map_cons, List.map_nil, Nat.reduceEqDiff, Nat.succ_ne_zero, if_false, if_true]
  refine (RC.at c3 hi).mono ?_
  rintro x s ⟨rfl, rfl⟩
  simp only [k_call, o_mov, o_call, g_cons, p_some, a_tmp, a_fun, fn_call, List.map_cons, List.map_nil, Nat.reduceEqDiff, Nat.succ_ne_zero, if_false, if_true]
  refine (RC.at c4 hi).mono ?_
  rintro x s ⟨rfl, rfl⟩
  generalize numR bs (numR bs (numR bs (numR bs r).2).2).2 = q4 at *
  generalize numR bs (numR bs (numR bs r).2).2 = q3 at *
  generalize numR bs (numR bs r).2 = q2 at *
  generalize numR bs r = q1 at *
  obtain ⟨v1, r1⟩ := q1
  obtain ⟨v2, r2⟩ := q2
  obtain ⟨v3, r3⟩ := q3
  obtain ⟨v4, r4⟩ := q4
  obtain ⟨a4, e4⟩ := r4
  obtain ⟨a0, e0⟩ := r
  simp only at *
  simp only [fillA, List.length_set, List.length_append, List.append_assoc, rdO, k_call, k_some, o_build, o_alloc, g_cons, p_some, a_tmp, List.map_cons, List.map_nil, Nat.reduceEqDiff, Nat.reduceAdd, Option.map_some, Nat.succ_ne_zero, AV.cells?, List.length_cons, List.length_nil, Nat.zero_add, List.drop_zero, List.drop_succ_cons, List.take_succ_cons, List.take_zero, List.nil_append, List.cons_append, Nat.reduceLeDiff, and_true, if_false, if_true]
  rw [o_store (by simp only [g_cons, a_tmp, Nat.reduceEqDiff, Nat.succ_ne_zero, if_false, if_true]; rfl)]
  simp only [c116r1, r_getI hi, r_get, r_set, List.set_cons_zero, List.set_cons_succ, u8ne, k_call, k_seq, k_reg, k_some, o_nil, o_mov, o_load, o_nilck, o_bin, o_faddr, g_cons, p_some, p_none, a_tmp, a_u8_0, wp_seq, wp_reg, q_thenN, evQ, binA, binInts, binI, Nat.reduceEqDiff, Nat.reduceAdd, Nat.succ_ne_zero, ld_ref, AV.cells?, List.length_cons, List.length_nil, Nat.zero_add, partA, List.getElem?_cons_zero, List.getElem?_cons_succ, List.drop_zero, List.drop_succ_cons, List.take_succ_cons, List.take_zero, putAt, List.nil_append, List.drop_nil, List.append_nil, Nat.le_refl, true_and, and_true, Bool.false_eq_true, if_false, if_true]
  rw [wp_cond (v := decide (e4 ≠ 0)) (by simp only [g_cons, a_tmp, Nat.reduceEqDiff, Nat.succ_ne_zero, if_false, if_true])]
  refine ⟨fun h => ?_, fun h => ?_⟩
  · have he : e4 ≠ 0 := by simpa using h
    simp only [fillA, k_call, k_some, o_build, p_some, wp_seq, wp_reg, List.map_nil, Option.map_some]
    rw [o_store (by simp only [g_cons, a_tmp, Nat.reduceEqDiff, Nat.succ_ne_zero, if_false, if_true]; rfl)]
    simp only [r_get0, r_set0, List.set_cons_zero, k_seq, k_reg, o_nil, g_cons, p_none, a_tmp, wp_ret, q_thenN, q_thenR, Nat.reduceEqDiff, Nat.reduceAdd, Nat.succ_ne_zero, AV.cells?, List.length_cons, List.length_nil, Nat.zero_add, List.getElem?_cons_zero, List.drop_succ_cons, List.take_zero, putAt, List.nil_append, List.drop_nil, List.append_nil, Nat.le_refl, true_and, and_true, if_false, if_true]
    refine fin_cell (v := .agg [.sc (.int .i64 0), .sc (.int .i64 0), .sc (.int .i64 0), .sc (.int .i64 0), .sl true []]) (.inr rfl) (by simp only [r_get0, g_cons, Nat.reduceEqDiff, Nat.reduceAdd, Nat.succ_ne_zero, ld_ref, List.length_cons, List.length_nil, Nat.zero_add, partA, List.getElem?_cons_zero, List.drop_zero, List.take_succ_cons, List.take_zero, Nat.le_refl, if_false, if_true]) ?_
    simp only [he, ne_eq, not_false_eq_true, if_true]
    refine fin_rN (bs := bs) (r := ⟨a0, e0⟩) (r' := ⟨a4, e4⟩) ?_
    exact ⟨frz_ndA, rfl⟩
  · have he : e4 = 0 := by simpa using h
    subst he
    simp only [c116d2, r_getI hi, k_drw, wp_draw, d_mov, d_nilck, d_faddr, d_load, k_seq, k_some, g_cons, p_some, a_tmp, wp_seq, wp_skip, q_thenN, evQ, Nat.reduceEqDiff, Nat.reduceAdd, Nat.succ_ne_zero, ld_ref, List.length_cons, List.length_nil, Nat.zero_add, partA, List.getElem?_cons_zero, List.getElem?_cons_succ, List.drop_zero, List.drop_succ_cons, List.take_succ_cons, List.take_zero, Nat.reduceLeDiff, Bool.false_eq_true, if_false, if_true]
    refine d_call2 (x := getV (clauseR bs a4)) (st' := _) (by simp only [g_cons, a_tmp, a_fun, fn_call, List.map_cons, List.map_nil, Nat.reduceEqDiff, Nat.succ_ne_zero, if_false, if_true]; exact call169 k4) (fun p hp => by cases hp) ?_
    cases hu : clauseR bs a4 with
    | error e =>
      have he := clauseR_err hu
      simp only [getV, c116r3, k_drw, d_nil, d_mov, d_ext, k_seq, k_reg, k_some, o_mov, o_call, g_cons, p_some, a_tmp, a_fun, a_bool, wp_seq, wp_reg, q_thenN, fn_call, evQ, List.map_cons, List.map_nil, Nat.reduceEqDiff, Nat.succ_ne_zero, List.getElem?_cons_zero, List.getElem?_cons_succ, if_false, if_true]
      refine (RC.at (call168 (bs := bs) (r := ⟨a4, 0⟩) (next := 0) (e := e) (ok := true) rfl) hi).mono ?_
      rintro x s ⟨rfl, rfl⟩
      simp only [c116r4, he, ne_eq, not_false_eq_true, rdO, k_call, k_seq, k_reg, k_some, o_nil, o_mov, o_faddr, g_cons, p_some, a_tmp, wp_seq, wp_reg, q_thenN, evQ, Nat.reduceEqDiff, Nat.succ_ne_zero, Nat.zero_add, if_false, if_true]
      rw [o_store (by simp only [g_cons, a_tmp, Nat.reduceEqDiff, Nat.succ_ne_zero, if_false, if_true]; rfl)]
      simp only [r_get, r_set, List.set_cons_zero, List.set_cons_succ, k_call, k_seq, k_reg, k_some, o_nil, o_load, g_cons, p_some, p_none, a_tmp, wp_seq, wp_reg, q_thenN, Nat.reduceEqDiff, Nat.reduceAdd, Nat.succ_ne_zero, ld_ref, AV.cells?, List.length_cons, List.length_nil, Nat.zero_add, partA, List.getElem?_cons_zero, List.getElem?_cons_succ, List.drop_zero, List.drop_succ_cons, List.take_succ_cons, List.take_zero, putAt, List.nil_append, List.cons_append, List.drop_nil, List.append_nil, Nat.le_refl, true_and, and_true, if_false, if_true]
      rw [o_store (by simp only [g_cons, a_tmp, Nat.reduceEqDiff, Nat.succ_ne_zero, if_false, if_true]; rfl)]
      simp only [r_get0, r_set0, List.set_cons_zero, k_seq, k_reg, o_nil, g_cons, p_none, a_tmp, wp_ret, q_thenN, Nat.reduceEqDiff, Nat.reduceAdd, Nat.succ_ne_zero, AV.cells?, List.length_cons, List.length_nil, Nat.zero_add, List.getElem?_cons_zero, List.drop_succ_cons, List.take_zero, putAt, List.nil_append, List.drop_nil, List.append_nil, Nat.le_refl, true_and, and_true, if_false, if_true]
      refine fin_cell (v := .agg [.sc (.int .i64 v1), .sc (.int .i64 v2), .sc (.int .i64 v3), .sc (.int .i64 v4), .sl false []]) (.inr rfl) (by simp only [r_get0, g_cons, Nat.reduceEqDiff, Nat.reduceAdd, Nat.succ_ne_zero, ld_ref, List.length_cons, List.length_nil, Nat.zero_add, partA, List.getElem?_cons_zero, List.drop_zero, List.take_succ_cons, List.take_zero, Nat.le_refl, if_false, if_true]) ?_
      refine fin_rN (bs := bs) (r := ⟨a0, e0⟩) (r' := ⟨a4, e⟩) ?_
      exact ⟨frz_ndA, rfl⟩
    | ok q =>
      obtain ⟨c, k⟩ := q
      simp only [getV, c116r3, k_drw, d_nil, d_mov, d_ext, k_seq, k_reg, k_some, o_mov, o_call, g_cons, p_some, a_tmp, a_fun, a_bool, wp_seq, wp_reg, q_thenN, fn_call, evQ, List.map_cons, List.map_nil, Nat.reduceEqDiff, Nat.succ_ne_zero, List.getElem?_cons_zero, List.getElem?_cons_succ, if_false, if_true]
      refine (RC.at (call168 (bs := bs) (r := ⟨a4, 0⟩) (next := k) (e := 0) (ok := true) rfl) hi).mono ?_
      rintro x s ⟨rfl, rfl⟩
      simp only [c116r4, ne_eq, not_true_eq_false, rdO, k_call, k_seq, k_reg, k_some, o_nil, o_mov, o_faddr, g_cons, p_some, a_tmp, wp_seq, wp_reg, q_thenN, evQ, Nat.reduceEqDiff, Nat.succ_ne_zero, Nat.zero_add, if_false, if_true]
      rw [o_store (by simp only [g_cons, a_tmp, Nat.reduceEqDiff, Nat.succ_ne_zero, if_false, if_true]; rfl)]
      simp only [r_get, r_set, List.set_cons_zero, List.set_cons_succ, k_call, k_seq, k_reg, k_some, o_nil, o_load, g_cons, p_some, p_none, a_tmp, wp_seq, wp_reg, q_thenN, Nat.reduceEqDiff, Nat.reduceAdd, Nat.succ_ne_zero, ld_ref, AV.cells?, List.length_cons, List.length_nil, Nat.zero_add, partA, List.getElem?_cons_zero, List.getElem?_cons_succ, List.drop_zero, List.drop_succ_cons, List.take_succ_cons, List.take_zero, putAt, List.nil_append, List.cons_append, List.drop_nil, List.append_nil, Nat.le_refl, true_and, and_true, if_false, if_true]
      rw [o_store (by simp only [g_cons, a_tmp, Nat.reduceEqDiff, Nat.succ_ne_zero, if_false, if_true]; rfl)]
      simp only [r_get0, r_set0, List.set_cons_zero, k_seq, k_reg, o_nil, g_cons, p_none, a_tmp, wp_ret, q_thenN, Nat.reduceEqDiff, Nat.reduceAdd, Nat.succ_ne_zero, AV.cells?, List.length_cons, List.length_nil, Nat.zero_add, List.getElem?_cons_zero, List.drop_succ_cons, List.take_zero, putAt, List.nil_append, List.drop_nil, List.append_nil, Nat.le_refl, true_and, and_true, if_false, if_true]
      refine fin_cell (v := .agg [.sc (.int .i64 v1), .sc (.int .i64 v2), .sc (.int .i64 v3), .sc (.int .i64 v4), .sl false (c.map liA)]) (.inr rfl) (by simp only [r_get0, g_cons, Nat.reduceEqDiff, Nat.reduceAdd, Nat.succ_ne_zero, ld_ref, List.length_cons, List.length_nil, Nat.zero_add, partA, List.getElem?_cons_zero, List.drop_zero, List.take_succ_cons, List.take_zero, Nat.le_refl, if_false, if_true]) ?_
      refine fin_rN (bs := bs) (r := ⟨a0, e0⟩) (r' := ⟨k, 0⟩) ?_
      exact ⟨frz_ndA, rfl⟩
end Go.AW

/-
  Events, lists of them, proofs, read.
-/
namespace Go.AW
open Go Go.RowKit Go.Proofs
set_option linter.unusedVariables false
set_option linter.unusedSimpArgs false
set_option maxRecDepth 100000

def eventR (bs : List UInt8) (r : RS) : Ev × RS :=
  if (countR bs 7 r).2.e ≠ 0 then (⟨(countR bs 7 r).1, 0, nd0⟩, (countR bs 7 r).2)
  else if (countR bs 7 r).1 = 0 then (⟨0, 0, (nodeR bs (countR bs 7 r).2).1⟩, (nodeR bs (countR bs 7 r).2).2)
  else if (countR bs 7 r).1 = 5 ∨ (countR bs 7 r).1 = 7 then (⟨(countR bs 7 r).1, 0, nd0⟩, (countR bs 7 r).2)
  else (⟨(countR bs 7 r).1, (numR bs (countR bs 7 r).2).1, nd0⟩, (numR bs (countR bs 7 r).2).2)
theorem eventR_ok {bs : List UInt8} {r : RS} (h : r.ok bs) : (eventR bs r).2.ok bs := by
  have h1 := (countR_ok (most := 7) h).1
  unfold eventR
  split
  · exact h1
  · split
    · exact nodeR_ok h1
    · split
      · exact h1
      · exact numR_ok h1

theorem frz_evA {st' : List AO} {m : Nat} {a b c d e f : Int} {fl : Bool} {xs : List AV} : ((AV.agg [.sc (.int .i64 a), .sc (.int .i64 b), .sc (.int .i64 c), .sc (.int .i64 d), .sc (.int .i64 e), .sc (.int .i64 f), .sl fl xs]).frz st' m).nrmT = .agg [.sc (.int .i64 a), .sc (.int .i64 b), .sc (.int .i64 c), .sc (.int .i64 d), .sc (.int .i64 e), .sc (.int .i64 f), .sl false xs] := by
  simp only [AV.frz, AV.frzV, AV.nrmT, AV.nrm, List.map_cons, List.map_nil, frzC_sl, frzC_sc]; rfl

set_option maxHeartbeats 4000000 in
theorem call68 {bs : List UInt8} {r : RS} (hr : r.ok bs) : RC 68 bs [] r (evA (eventR bs r).1) (eventR bs r).2 := by
  intro st i hi
  have k1 := countR_ok (most := 7) hr
  have hE : eventR bs r = if (countR bs 7 r).2.e ≠ 0 then (⟨(countR bs 7 r).1, 0, nd0⟩, (countR bs 7 r).2)
    else if (countR bs 7 r).1 = 0 then (⟨0, 0, (nodeR bs (countR bs 7 r).2).1⟩, (nodeR bs (countR bs 7 r).2).2)
    else if (countR bs 7 r).1 = 5 ∨ (countR bs 7 r).1 = 7 then (⟨(countR bs 7 r).1, 0, nd0⟩, (countR bs 7 r).2)
    else (⟨(countR bs 7 r).1, (numR bs (countR bs 7 r).2).1, nd0⟩, (numR bs (countR bs 7 r).2).2) := rfl
  refine acall_t t68 (by simp) ?_
  rw [hE]
  have c1 := call115 (most := 7) hr (by omega)
  simp only [c68, c68r0, List.length_set, k_seq, k_reg, o_nil, o_mov, o_alloc, o_call, g_cons, p_some, a_tmp, a_fun, a_u64_7, wp_seq, wp_reg, q_thenN, fn_call, argE, List.map_cons, List.map_nil, Nat.reduceEqDiff, Nat.succ_ne_zero, if_false, if_true]
  refine (RC.at c1 hi).mono ?_
  rintro x s ⟨rfl, rfl⟩
  generalize countR bs 7 r = q at *
  obtain ⟨kd, r1⟩ := q
  obtain ⟨a1, e1⟩ := r1
  obtain ⟨a0, e0⟩ := r
  simp only at *
  simp only [fillA, List.length_set, List.length_append, List.append_assoc, rdO, k_call, k_some, o_build, o_alloc, g_cons, p_some, a_tmp, List.map_cons, List.map_nil, Nat.reduceEqDiff, Nat.reduceAdd, Option.map_some, Nat.succ_ne_zero, AV.cells?, List.length_cons, List.length_nil, Nat.zero_add, List.drop_zero, List.drop_succ_cons, List.take_zero, List.nil_append, List.cons_append, Nat.reduceLeDiff, and_true, if_false, if_true]
  rw [o_store (by simp only [g_cons, a_tmp, Nat.reduceEqDiff, Nat.succ_ne_zero, if_false, if_true]; rfl)]
  simp only [c68r1, r_getI hi, r_get, r_set, List.set_cons_zero, List.set_cons_succ, u8ne, k_call, k_seq, k_reg, k_some, o_nil, o_mov, o_load, o_nilck, o_bin, o_faddr, g_cons, p_some, p_none, a_tmp, a_u8_0, wp_seq, wp_reg, wp_block, q_thenN, evQ, binA, binInts, binI, Nat.reduceEqDiff, Nat.reduceAdd, Nat.succ_ne_zero, ld_ref, AV.cells?, List.length_cons, List.length_nil, Nat.zero_add, partA, List.getElem?_cons_zero, List.getElem?_cons_succ, List.drop_zero, List.drop_succ_cons, List.take_succ_cons, List.take_zero, putAt, List.nil_append, List.drop_nil, List.append_nil, Nat.le_refl, true_and, and_true, Bool.false_eq_true, if_false, if_true]
  rw [wp_cond (v := decide (e1 ≠ 0)) (by simp only [g_cons, a_tmp, Nat.reduceEqDiff, Nat.succ_ne_zero, if_false, if_true])]
  refine ⟨fun h => ?_, fun h => ?_⟩
  · have he : e1 ≠ 0 := by simpa using h
    simp only [r_get, k_call, k_seq, k_some, o_load, g_cons, p_some, a_tmp, wp_seq, wp_reg, wp_skip, q_thenN, q_blkN, Nat.reduceEqDiff, Nat.reduceAdd, Nat.succ_ne_zero, ld_ref, List.length_cons, List.length_nil, Nat.zero_add, partA, List.getElem?_cons_zero, List.getElem?_cons_succ, List.drop_zero, List.take_succ_cons, List.take_zero, Nat.le_refl, if_false, if_true]
    rw [o_store (by simp only [g_cons, a_tmp, Nat.reduceEqDiff, Nat.succ_ne_zero, if_false, if_true]; rfl)]
    simp only [r_get0, r_set0, List.set_cons_zero, k_seq, k_reg, o_nil, g_cons, p_none, a_tmp, wp_ret, q_thenN, Nat.reduceEqDiff, Nat.reduceAdd, Nat.succ_ne_zero, AV.cells?, List.length_cons, List.length_nil, Nat.zero_add, List.getElem?_cons_zero, List.drop_succ_cons, List.take_zero, putAt, List.nil_append, List.drop_nil, List.append_nil, Nat.le_refl, true_and, and_true, if_false, if_true]
    refine fin_cell (v := .agg [.sc (.int .i64 (kd : Nat)), .sc (.int .i64 0), .sc (.int .i64 0), .sc (.int .i64 0), .sc (.int .i64 0), .sc (.int .i64 0), .sl true []]) (.inr rfl) (by simp only [r_get0, g_cons, Nat.reduceEqDiff, Nat.reduceAdd, Nat.succ_ne_zero, ld_ref, List.length_cons, List.length_nil, Nat.zero_add, partA, List.getElem?_cons_zero, List.drop_zero, List.take_succ_cons, List.take_zero, Nat.le_refl, if_false, if_true]) ?_
    simp only [he, ne_eq, not_false_eq_true, if_true]
    refine fin_rN (bs := bs) (r := ⟨a0, e0⟩) (r' := ⟨a1, e1⟩) ?_
    exact ⟨frz_evA, rfl⟩
  · have he : e1 = 0 := by simpa using h
    subst he
    simp only [c68r2, r_get, k_call, k_seq, k_reg, k_some, o_nil, o_mov, o_load, o_bin, o_faddr, g_cons, p_some, a_tmp, a_i64_0, wp_seq, wp_reg, q_thenN, evQ, binA, binInts, binI, Nat.reduceEqDiff, Nat.reduceAdd, Nat.succ_ne_zero, ld_ref, List.length_cons, List.length_nil, Nat.zero_add, partA, List.getElem?_cons_zero, List.getElem?_cons_succ, List.drop_zero, List.take_succ_cons, List.take_zero, Nat.reduceLeDiff, Bool.false_eq_true, if_false, if_true]
    rw [wp_cond (v := decide (kd = 0)) (by simp only [u8eq, g_cons, a_tmp, Nat.reduceEqDiff, Nat.succ_ne_zero, if_false, if_true])]
    refine ⟨fun h => ?_, fun h => ?_⟩
    · have hk : kd = 0 := by simpa using h
      subst hk
      simp only [c68r3, o_mov, o_call, g_cons, p_some, a_tmp, a_fun, wp_reg, fn_call, List.map_cons, List.map_nil, Nat.reduceEqDiff, Nat.succ_ne_zero, if_false, if_true]
      have cN := call116 (bs := bs) (r := ⟨a1, 0⟩) k1.1
      refine (RC.at cN hi).mono ?_
      rintro x s ⟨rfl, rfl⟩
      generalize nodeR bs ⟨a1, 0⟩ = qn at *
      obtain ⟨⟨v1, v2, v3, v4, c⟩, r2⟩ := qn
      simp only at *
      simp only [ndA, rdO, k_call, k_some, o_faddr, g_cons, p_some, a_tmp, evQ, Nat.reduceEqDiff, Nat.succ_ne_zero, Nat.zero_add, if_false, if_true]
      rw [o_store (by simp only [g_cons, a_tmp, Nat.reduceEqDiff, Nat.succ_ne_zero, if_false, if_true]; rfl)]
      simp only [r_get, r_set, List.set_cons_zero, List.set_cons_succ, k_call, k_seq, k_reg, k_some, o_nil, o_load, g_cons, p_some, p_none, a_tmp, wp_seq, wp_reg, q_thenN, q_blkN, Nat.reduceEqDiff, Nat.reduceAdd, Nat.succ_ne_zero, ld_ref, AV.cells?, List.length_cons, List.length_nil, Nat.zero_add, partA, List.getElem?_cons_zero, List.getElem?_cons_succ, List.drop_zero, List.drop_succ_cons, List.take_succ_cons, List.take_zero, putAt, List.nil_append, List.cons_append, List.drop_nil, List.append_nil, Nat.le_refl, true_and, and_true, if_false, if_true]
      rw [o_store (by simp only [g_cons, a_tmp, Nat.reduceEqDiff, Nat.succ_ne_zero, if_false, if_true]; rfl)]
      simp only [r_get0, r_set0, List.set_cons_zero, k_seq, k_reg, o_nil, g_cons, p_none, a_tmp, wp_ret, q_thenN, Nat.reduceEqDiff, Nat.reduceAdd, Nat.succ_ne_zero, AV.cells?, List.length_cons, List.length_nil, Nat.zero_add, List.getElem?_cons_zero, List.drop_succ_cons, List.take_zero, putAt, List.nil_append, List.drop_nil, List.append_nil, Nat.le_refl, true_and, and_true, if_false, if_true]
      refine fin_cell (v := .agg [.sc (.int .i64 ((0 : Nat) : Int)), .sc (.int .i64 0), .sc (.int .i64 v1), .sc (.int .i64 v2), .sc (.int .i64 v3), .sc (.int .i64 v4), .sl false (c.map liA)]) (.inr rfl) (by simp only [r_get0, g_cons, Nat.reduceEqDiff, Nat.reduceAdd, Nat.succ_ne_zero, ld_ref, List.length_cons, List.length_nil, Nat.zero_add, partA, List.getElem?_cons_zero, List.drop_zero, List.take_succ_cons, List.take_zero, Nat.le_refl, if_false, if_true]) ?_
      simp only [ne_eq, not_true_eq_false, if_false]
      refine fin_rN (bs := bs) (r := ⟨a0, e0⟩) (r' := r2) ?_
      exact ⟨frz_evA, rfl⟩
    · have hk : ¬ kd = 0 := by simpa using h
      simp only [c68r4, r_get, k_call, k_some, o_load, o_faddr, o_call, g_cons, p_some, a_tmp, a_fun, wp_seq, wp_reg, fn_call, evQ, List.map_cons, List.map_nil, Nat.reduceEqDiff, Nat.reduceAdd, Nat.succ_ne_zero, ld_ref, List.length_cons, List.length_nil, Nat.zero_add, partA, List.getElem?_cons_zero, List.getElem?_cons_succ, List.drop_zero, List.take_succ_cons, List.take_zero, Nat.reduceLeDiff, Bool.false_eq_true, if_false, if_true]
      refine call65.mono ?_
      rintro x s ⟨rfl, rfl⟩
      simp only [k_call, k_seq, k_reg, k_some, o_nil, o_mov, o_un, g_cons, p_some, a_tmp, q_thenN, evQ, Nat.reduceEqDiff, Nat.succ_ne_zero, if_false, if_true]
      rw [wp_cond (v := !decide ((kd : Int) = 5 ∨ (kd : Int) = 7)) (by simp only [g_cons, a_tmp, Nat.reduceEqDiff, Nat.succ_ne_zero, if_false, if_true])]
      refine ⟨fun h => ?_, fun h => ?_⟩
      · have hb : ¬ (kd = 5 ∨ kd = 7) := by
          have : ¬ ((kd : Int) = 5 ∨ (kd : Int) = 7) := by simpa using h
          omega
        simp only [c68r5, o_mov, o_call, g_cons, p_some, a_tmp, a_fun, wp_reg, fn_call, List.map_cons, List.map_nil, Nat.reduceEqDiff, Nat.succ_ne_zero, if_false, if_true]
        have cN := call117 (bs := bs) (r := ⟨a1, 0⟩) k1.1
        refine (RC.at cN hi).mono ?_
        rintro x s ⟨rfl, rfl⟩
        generalize numR bs ⟨a1, 0⟩ = qn at *
        obtain ⟨v1, r2⟩ := qn
        simp only at *
        simp only [rdO, k_call, k_some, o_faddr, g_cons, p_some, a_tmp, evQ, Nat.reduceEqDiff, Nat.succ_ne_zero, Nat.zero_add, if_false, if_true]
        rw [o_store (by simp only [g_cons, a_tmp, Nat.reduceEqDiff, Nat.succ_ne_zero, if_false, if_true]; rfl)]
        simp only [r_get, r_set, List.set_cons_zero, List.set_cons_succ, k_call, k_seq, k_reg, k_some, o_nil, o_load, g_cons, p_some, p_none, a_tmp, wp_seq, wp_reg, q_thenN, q_blkN, Nat.reduceEqDiff, Nat.reduceAdd, Nat.succ_ne_zero, ld_ref, AV.cells?, List.length_cons, List.length_nil, Nat.zero_add, partA, List.getElem?_cons_zero, List.getElem?_cons_succ, List.drop_zero, List.drop_succ_cons, List.take_succ_cons, List.take_zero, putAt, List.nil_append, List.cons_append, Nat.reduceLeDiff, Nat.le_refl, true_and, and_true, if_false, if_true]
        rw [o_store (by simp only [g_cons, a_tmp, Nat.reduceEqDiff, Nat.succ_ne_zero, if_false, if_true]; rfl)]
        simp only [r_get0, r_set0, List.set_cons_zero, k_seq, k_reg, o_nil, g_cons, p_none, a_tmp, wp_ret, q_thenN, Nat.reduceEqDiff, Nat.reduceAdd, Nat.succ_ne_zero, AV.cells?, List.length_cons, List.length_nil, Nat.zero_add, List.getElem?_cons_zero, List.drop_succ_cons, List.take_zero, putAt, List.nil_append, List.drop_nil, List.append_nil, Nat.le_refl, true_and, and_true, if_false, if_true]
        refine fin_cell (v := .agg [.sc (.int .i64 (kd : Nat)), .sc (.int .i64 v1), .sc (.int .i64 0), .sc (.int .i64 0), .sc (.int .i64 0), .sc (.int .i64 0), .sl true []]) (.inr rfl) (by simp only [r_get0, g_cons, Nat.reduceEqDiff, Nat.reduceAdd, Nat.succ_ne_zero, ld_ref, List.length_cons, List.length_nil, Nat.zero_add, partA, List.getElem?_cons_zero, List.drop_zero, List.take_succ_cons, List.take_zero, Nat.le_refl, if_false, if_true]) ?_
        simp only [hk, hb, ne_eq, not_true_eq_false, if_false]
        refine fin_rN (bs := bs) (r := ⟨a0, e0⟩) (r' := r2) ?_
        exact ⟨frz_evA, rfl⟩
      · have hb : kd = 5 ∨ kd = 7 := by
          have h57 : ¬ (kd : Int) = 5 → (kd : Int) = 7 := by simpa using h
          omega
        simp only [r_get, k_call, k_seq, k_some, o_load, g_cons, p_some, a_tmp, wp_seq, wp_reg, wp_skip, q_thenN, q_blkN, Nat.reduceEqDiff, Nat.reduceAdd, Nat.succ_ne_zero, ld_ref, List.length_cons, List.length_nil, Nat.zero_add, partA, List.getElem?_cons_zero, List.getElem?_cons_succ, List.drop_zero, List.take_succ_cons, List.take_zero, Nat.le_refl, if_false, if_true]
        rw [o_store (by simp only [g_cons, a_tmp, Nat.reduceEqDiff, Nat.succ_ne_zero, if_false, if_true]; rfl)]
        simp only [r_get0, r_set0, List.set_cons_zero, k_seq, k_reg, o_nil, g_cons, p_none, a_tmp, wp_ret, q_thenN, Nat.reduceEqDiff, Nat.reduceAdd, Nat.succ_ne_zero, AV.cells?, List.length_cons, List.length_nil, Nat.zero_add, List.getElem?_cons_zero, List.drop_succ_cons, List.take_zero, putAt, List.nil_append, List.drop_nil, List.append_nil, Nat.le_refl, true_and, and_true, if_false, if_true]
        refine fin_cell (v := .agg [.sc (.int .i64 (kd : Nat)), .sc (.int .i64 0), .sc (.int .i64 0), .sc (.int .i64 0), .sc (.int .i64 0), .sc (.int .i64 0), .sl true []]) (.inr rfl) (by simp only [r_get0, g_cons, Nat.reduceEqDiff, Nat.reduceAdd, Nat.succ_ne_zero, ld_ref, List.length_cons, List.length_nil, Nat.zero_add, partA, List.getElem?_cons_zero, List.drop_zero, List.take_succ_cons, List.take_zero, Nat.le_refl, if_false, if_true]) ?_
        simp only [hk, hb, ne_eq, not_true_eq_false, if_false, if_true]
        refine fin_rN (bs := bs) (r := ⟨a0, e0⟩) (r' := ⟨a1, 0⟩) ?_
        exact ⟨frz_evA, rfl⟩

def listR (bs : List UInt8) (r : RS) : List Ev × RS := manyR (eventR bs) (countR bs 1048576 r).1 (countR bs 1048576 r).2
theorem listR_ok {bs : List UInt8} {r : RS} (h : r.ok bs) : (listR bs r).2.ok bs := manyR_ok (fun r hr => eventR_ok hr) (countR_ok h).1
theorem ev_cells {c : List Ev} : ∀ x ∈ c.map evA, x.cells.length = 7 := by
  intro x hx; obtain ⟨n, _, rfl⟩ := List.mem_map.1 hx; rfl
theorem fin_rB {st ext : List AO} {i : Nat} {bs : List UInt8} {r r' : RS} {R : AV → List AO → Prop} {x : AV} {cur : List AV} {e sz : Nat} (hx : IsBuf st.length e sz (st.set i (rdO bs r') ++ ext) x cur) (h : R (.sl false cur) (st.set i (rdO bs r'))) : Fin (st.set i (rdO bs r)) R x (st.set i (rdO bs r') ++ ext) := by
  refine fin_rN ?_
  rcases hx with rfl | ⟨g, h1, rfl, h2⟩
  · exact h
  · have : ¬ g < st.length := by omega
    simp only [AV.frz, AV.frzV, AV.frzC, this, if_false, h2, if_true]
    exact h

set_option maxHeartbeats 4000000 in
theorem call67 {bs : List UInt8} {r : RS} (hr : r.ok bs) {st : List AO} {i : Nat} (hi : i < st.length) :
    ACall Tryz.prog 67 [.ref i 0, .fn 68 1 [.ref i 0]] (st.set i (rdO bs r)) (fun x s => x = .sl false ((listR bs r).1.map evA) ∧ s = st.set i (rdO bs (listR bs r).2)) := by
  have k1 := countR_ok (most := 1048576) hr
  have hL : listR bs r = manyR (eventR bs) (countR bs 1048576 r).1 (countR bs 1048576 r).2 := rfl
  refine acall_t t67 (by simp) ?_
  rw [hL]
  have c1 := call115 (most := 1048576) hr (by omega)
  simp only [c67, c67r0, k_seq, k_reg, o_nil, o_mov, o_call, g_cons, p_some, a_tmp, a_fun, a_nil, a_u64_1048576, wp_seq, wp_reg, q_thenN, fn_call, argE, List.map_cons, List.map_nil, Nat.reduceEqDiff, Nat.succ_ne_zero, Nat.zero_add, if_false, if_true]
  refine (c1 st i hi).mono ?_
  rintro x s ⟨rfl, rfl⟩
  generalize countR bs 1048576 r = q at *
  obtain ⟨n, r0⟩ := q
  obtain ⟨a0, e0⟩ := r
  simp only at *
  simp only [k_call, k_seq, k_reg, o_nil, o_mov, p_some, a_i64_0, wp_block, wp_loop, q_thenN]
  refine loop_rule (fun (q : Nat × List Ev × RS) E st' => q.1 ≤ n ∧ q.2.2.ok bs ∧ q.2.1.length = q.1 ∧ manyR (eventR bs) n r0 = (q.2.1 ++ (manyR (eventR bs) (n - q.1) q.2.2).1, (manyR (eventR bs) (n - q.1) q.2.2).2) ∧
      ∃ v ext, st' = st.set i (rdO bs q.2.2) ++ ext ∧ E = [(0, .ref i 0), (1, .fn 68 1 [.ref i 0]), (5, v), (7, .sc (.int .i64 (n : Nat))), (8, .sc (.int .i64 (q.1 : Nat)))] ∧ IsBuf st.length 95 7 st' v (q.2.1.map evA)) (fun q => n - q.1)
    (0, [], r0) [(0, .ref i 0), (1, .fn 68 1 [.ref i 0]), (5, .sl true []), (7, .sc (.int .i64 (n : Nat))), (8, .sc (.int .i64 0))] (by simp only [SubE, g_cons, Nat.reduceEqDiff, Nat.succ_ne_zero, and_true, if_false, if_true]) ⟨Nat.zero_le _, k1.1, rfl, by simp, .sl true [], [], by simp, rfl, .inl rfl⟩ ?_
  rintro ⟨k', acc, r⟩ E st' ⟨hk, hrk, hacc, hm, v, ext, rfl, rfl, hv⟩
  simp only at hk hrk hacc hm hv ⊢
  have leave : ∀ (r : RS) (v : AV) (ext : List AO) (acc : List Ev) (E : Env), manyR (eventR bs) n r0 = (acc, r) → E.get 5 = v → IsBuf st.length 95 7 (st.set i (rdO bs r) ++ ext) v (acc.map evA) →
      wpC Tryz.prog 22 none (.seq (.reg [⟨some 21, none, .mov (.tmp 5)⟩, ⟨some 4, none, .mov (.tmp 21)⟩]) .ret) E [] (st.set i (rdO bs r) ++ ext)
        (FinQ [.tmp 4] (st.set i (rdO bs ⟨a0, e0⟩)) (fun x s => x = .sl false ((manyR (eventR bs) n r0).1.map evA) ∧ s = st.set i (rdO bs (manyR (eventR bs) n r0).2))) := by
    intro r v ext acc E hm hE hv
    rw [hm]
    simp only [hE, k_seq, k_reg, o_nil, o_mov, g_cons, p_some, a_tmp, wp_seq, wp_reg, wp_ret, q_thenN, if_true]
    refine fin_tmp (.inr rfl) ?_
    simp only [g_cons, Nat.reduceEqDiff, if_false, if_true]
    exact fin_rB hv ⟨rfl, rfl⟩
  simp only [c67l3, k_call, k_seq, k_reg, k_some, o_nil, o_bin, g_cons, p_some, a_tmp, wp_seq, wp_reg, q_thenN, binA, binInts, binI, Nat.reduceEqDiff, Nat.succ_ne_zero, if_false, if_true]
  rw [wp_cond (v := decide (k' < n)) (by simp only [dec_lt, g_cons, a_tmp, Nat.reduceEqDiff, Nat.succ_ne_zero, if_false, if_true])]
  refine ⟨fun h => ?_, fun h => ?_⟩
  · have hk1 : k' < n := by simpa using h
    obtain ⟨m, hmm⟩ : ∃ m, n - k' = m + 1 := ⟨n - k' - 1, by omega⟩
    rw [hmm] at hm
    obtain ⟨a1, e1⟩ := r
    simp only [c67r1, r_getI hi, rdO, u8ne, k_call, k_seq, k_reg, k_some, o_nil, o_mov, o_load, o_nilck, o_bin, o_faddr, g_cons, p_some, a_tmp, a_u8_0, wp_seq, wp_reg, wp_skip, wp_block, q_thenN, evQ, binA, binInts, binI, Nat.reduceEqDiff, Nat.reduceAdd, Nat.succ_ne_zero, ld_ref, List.length_cons, List.length_nil, Nat.zero_add, partA, List.getElem?_cons_zero, List.getElem?_cons_succ, List.drop_zero, List.drop_succ_cons, List.take_succ_cons, List.take_zero, Nat.le_refl, Bool.false_eq_true, if_false, if_true]
    rw [wp_cond (v := decide (e1 ≠ 0)) (by simp only [g_cons, a_tmp, Nat.reduceEqDiff, Nat.succ_ne_zero, if_false, if_true])]
    refine ⟨fun h => ?_, fun h => ?_⟩
    · have he : e1 ≠ 0 := by simpa using h
      have hm0 : manyR (eventR bs) (m + 1) ⟨a1, e1⟩ = ([], ⟨a1, e1⟩) := by simp only [manyR, he, ne_eq, not_false_eq_true, if_true]
      rw [hm0, List.append_nil] at hm
      simp only [wp_exit, q_thenE, q_nxtE, q_blkE, q_thenN, k_seq, Nat.reduceEqDiff, if_true, if_false]
      exact leave ⟨a1, e1⟩ v ext acc _ hm (by simp only [g_cons, Nat.reduceEqDiff, Nat.succ_ne_zero, if_false, if_true]) hv
    · have he : ¬ e1 ≠ 0 := by simpa using h
      have hm0 : manyR (eventR bs) (m + 1) ⟨a1, e1⟩ = ((eventR bs ⟨a1, e1⟩).1 :: (manyR (eventR bs) m (eventR bs ⟨a1, e1⟩).2).1, (manyR (eventR bs) m (eventR bs ⟨a1, e1⟩).2).2) := by simp only [manyR, he, if_false]
      rw [hm0] at hm
      have hok := eventR_ok hrk
      have cE := call68 hrk
      generalize eventR bs ⟨a1, e1⟩ = qe at *
      obtain ⟨ev, r1⟩ := qe
      simp only at hm hok cE
      simp only [c67r2, k_seq, o_mov, o_call, g_cons, p_some, a_tmp, wp_reg, wp_skip, q_thenN, List.map_nil, Nat.reduceEqDiff, Nat.succ_ne_zero, if_false, if_true]
      refine ACall.mono (f := 68) (RC.at cE hi (B := ext)) ?_
      rintro x s ⟨rfl, rfl⟩
      simp only [evA, k_call, p_some]
      rw [o_mksl (by intro y hy; simp only [List.mem_singleton] at hy; subst hy; simp only [g_cons, a_tmp, Nat.reduceEqDiff, Nat.succ_ne_zero, if_false, if_true]; rfl)]
      simp only [o_app, g_cons, p_some, a_tmp, List.map_cons, List.map_nil, Nat.reduceEqDiff, Nat.succ_ne_zero, if_false, if_true]
      refine ⟨(by intro x hx; simp only [List.mem_singleton] at hx; subst hx; exact ⟨rfl, rfl⟩), ?_⟩
      have hlS : (st.set i (rdO bs r1)).length = st.length := List.length_set
      have hv1 : IsBuf st.length 95 7 (st.set i (rdO bs r1) ++ ext) v (acc.map evA) := by
        have := hv.set (j := i) (o := rdO bs r1) hi
        rwa [r_setI hi] at this
      refine app_buf (st0 := st.set i (rdO bs r1)) (cur := acc.map evA) (zs := [evA ev]) ?_ ?_ ?_ ?_ ?_ ?_ ?_
      · rw [hlS]; simp only [g_cons, a_tmp, Nat.reduceEqDiff, Nat.succ_ne_zero, if_false, if_true]; exact hv1
      · simp only [g_cons, a_tmp, Nat.reduceEqDiff, Nat.succ_ne_zero, if_false, if_true]; rfl
      · exact (by intro x hx; simp only [List.mem_singleton] at hx; subst hx; exact ⟨rfl, rfl⟩)
      · exact ev_cells
      · simp only [List.length_map, List.length_singleton, hacc]; omega
      · simp only [List.length_map, List.length_singleton, hacc]; omega
      intro v' ext' hv'
      rw [hlS] at hv'
      simp only [wrap_succ (show k' < 9223372036854775807 by omega), k_call, k_seq, k_reg, k_some, o_nil, o_mov, o_bin, g_cons, p_some, a_tmp, a_i64_1, wp_reg, q_thenN, q_blkN, q_nxtN, binA, binInts, binI, Nat.reduceEqDiff, Nat.succ_ne_zero, true_and, if_false, if_true]
      refine ⟨_, (?_ : SubE [(0, _), (1, _), (5, _), (7, _), (8, _)] _), (k' + 1, acc ++ [ev], r1), by simp only; omega, by simp only; omega, hok, by simp [hacc], ?_, v', ext', rfl, rfl, ?_⟩
      · simp only [SubE, g_cons, Nat.reduceEqDiff, Nat.succ_ne_zero, and_true, if_false, if_true]
      · simp only [show n - (k' + 1) = m by omega, List.append_assoc, List.singleton_append]; exact hm
      · simp only [List.map_append]; exact hv'
  · have hk0 : n - k' = 0 := by have : ¬ k' < n := by simpa using h
                                omega
    rw [hk0] at hm
    simp only [manyR, List.append_nil] at hm
    simp only [wp_exit, q_thenE, q_nxtE, q_blkE, q_thenN, k_seq, if_true]
    exact leave r v ext acc _ hm (by simp only [g_cons, Nat.reduceEqDiff, Nat.succ_ne_zero, if_false, if_true]) hv
end Go.AW

/-
  All events of bytes; proofs of bytes.
-/
namespace Go.AW
open Go Go.RowKit Go.Proofs
set_option linter.unusedVariables false
set_option linter.unusedSimpArgs false
set_option maxRecDepth 100000

section
variable {P : Program} {N : Nat} {rd : Option Nat} {mk : List Nat} {r : List DI} {en : Env} {st : List AO} {hist : List (List AO)} {pend : List (Nat × (List AO → Prop))} {K : Env → List AO → Prop} {d : Option Nat} {b f k t : Nat} {w : Bool} {op : AOp}
theorem d_gT (h : en.get t = .sc (.bool w)) : drawC P N rd mk (⟨⟨d, some (t, w), op⟩, k, b, f⟩ :: r) en st hist pend K = drawC P N rd mk (⟨⟨d, none, op⟩, k, b, f⟩ :: r) en st hist pend K := by
  simp only [drawC, guardV, h, BEq.rfl]
theorem d_gF {v : Bool} (h : en.get t = .sc (.bool v)) (hv : (v == w) = false) (hk : k = 0 ∨ k = 1) : drawC P N rd mk (⟨⟨d, some (t, w), op⟩, k, b, f⟩ :: r) en st hist pend K = drawC P N rd mk r (putE en d (.tup [])) st hist pend K := by
  rcases hk with rfl | rfl <;> simp only [drawC, guardV, h, hv]
theorem d_len1 {s : Bool} {x : Operand} {v : AV} (h : lenA s (opA en x) = some v) (hr : drawC P N rd mk r (putE en d v) st [] pend K) : drawC P N rd mk (⟨⟨d, none, .len s x⟩, 1, b, 0⟩ :: r) en st [] pend K := by
  simp only [drawC, guardV, opC, h]
  exact ⟨v, fun _ => ⟨rfl, trivial⟩, by simp, by simpa using hr⟩
end

def endR (bs : List UInt8) (r : RS) : RS := if r.e = 0 ∧ r.at_ ≠ bs.length then ⟨r.at_, 7⟩ else r

set_option maxHeartbeats 1000000 in
theorem call69 {bs : List UInt8} {r : RS} (hr : r.ok bs) : RC 69 bs [] r (.sc (.int .u8 ((endR bs r).e : Nat))) (endR bs r) := by
  intro st i hi
  obtain ⟨a0, e0⟩ := r
  refine acall_t t69 (by simp) ?_
  simp only [c69, c69d0, u8eq, r_getJ hi, rdO, k_drw, wp_draw, d_mov, d_bin, d_nilck, d_faddr, d_load, k_seq, k_reg, k_some, o_nil, o_mov, g_cons, p_some, a_tmp, a_u8_0, wp_seq, wp_reg, q_thenN, evQ, binA, binInts, binI, argE, Nat.reduceEqDiff, Nat.reduceAdd, Nat.succ_ne_zero, ld_ref, List.length_cons, List.length_nil, Nat.zero_add, partA, List.getElem?_cons_zero, List.getElem?_cons_succ, List.drop_zero, List.drop_succ_cons, List.take_succ_cons, List.take_zero, Nat.le_refl, Bool.false_eq_true, if_false, if_true]
  by_cases he : e0 = 0
  · subst he
    simp only [decide_true]
    rw [d_gT (by simp only [g_cons, Nat.reduceEqDiff, Nat.succ_ne_zero, if_false, if_true])]
    simp only [d_mov, g_cons, p_some, a_tmp, Nat.reduceEqDiff, if_false, if_true]
    rw [d_gT (by simp only [g_cons, Nat.reduceEqDiff, Nat.succ_ne_zero, if_false, if_true])]
    simp only [k_drw, d_nilck, k_some, g_cons, p_some, a_tmp, evQ, Nat.reduceEqDiff, Nat.succ_ne_zero, if_false, if_true]
    rw [d_gT (by simp only [g_cons, Nat.reduceEqDiff, Nat.succ_ne_zero, if_false, if_true])]
    simp only [k_drw, d_faddr, k_some, g_cons, p_some, a_tmp, evQ, Nat.reduceEqDiff, Nat.succ_ne_zero, Nat.zero_add, if_false, if_true]
    rw [d_gT (by simp only [g_cons, Nat.reduceEqDiff, Nat.succ_ne_zero, if_false, if_true])]
    simp only [r_getJ hi, k_drw, d_load, k_some, g_cons, p_some, a_tmp, Nat.reduceEqDiff, Nat.reduceAdd, Nat.succ_ne_zero, ld_ref, List.length_cons, List.length_nil, Nat.zero_add, partA, List.getElem?_cons_zero, List.getElem?_cons_succ, List.drop_zero, List.drop_succ_cons, List.take_succ_cons, List.take_zero, Nat.reduceLeDiff, Bool.false_eq_true, if_false, if_true]
    rw [d_gT (by simp only [g_cons, Nat.reduceEqDiff, Nat.succ_ne_zero, if_false, if_true])]
    simp only [d_mov, g_cons, p_some, a_tmp, Nat.reduceEqDiff, if_false, if_true]
    rw [d_gT (by simp only [g_cons, Nat.reduceEqDiff, Nat.succ_ne_zero, if_false, if_true])]
    simp only [k_drw, d_nilck, k_some, g_cons, p_some, a_tmp, evQ, Nat.reduceEqDiff, Nat.succ_ne_zero, if_false, if_true]
    rw [d_gT (by simp only [g_cons, Nat.reduceEqDiff, Nat.succ_ne_zero, if_false, if_true])]
    simp only [k_drw, d_faddr, k_some, g_cons, p_some, a_tmp, evQ, Nat.reduceEqDiff, Nat.succ_ne_zero, Nat.zero_add, if_false, if_true]
    rw [d_gT (by simp only [g_cons, Nat.reduceEqDiff, Nat.succ_ne_zero, if_false, if_true])]
    simp only [r_getJ hi, k_drw, d_load, k_some, g_cons, p_some, a_tmp, Nat.reduceEqDiff, Nat.reduceAdd, Nat.succ_ne_zero, ld_ref, List.length_cons, List.length_nil, Nat.zero_add, partA, List.getElem?_cons_zero, List.drop_zero, List.take_succ_cons, List.take_zero, Nat.reduceLeDiff, Bool.false_eq_true, if_false, if_true]
    rw [d_gT (by simp only [g_cons, Nat.reduceEqDiff, Nat.succ_ne_zero, if_false, if_true])]
    refine d_len1 (v := .sc (.int .i64 (bs.length : Nat))) (by simp only [bA, List.length_map, g_cons, a_tmp, slen, lenA, Nat.reduceEqDiff, Nat.succ_ne_zero, if_false, if_true]) ?_
    simp only [p_some]
    rw [d_gT (by simp only [g_cons, Nat.reduceEqDiff, Nat.succ_ne_zero, if_false, if_true])]
    simp only [k_drw, d_nil, d_pick, d_bin, k_seq, k_reg, k_some, g_cons, p_some, a_tmp, a_bool, q_thenN, evQ, binA, binInts, binI, Nat.reduceEqDiff, Nat.succ_ne_zero, if_false, if_true]
    rw [wp_cond (v := decide (a0 ≠ bs.length)) (by
      simp only [g_cons, a_tmp, Nat.reduceEqDiff, Nat.succ_ne_zero, if_false, if_true]
      congr 2
      by_cases h : a0 = bs.length
      · subst h; simp
      · have : (a0 : Int) ≠ bs.length := by omega
        simp [h, this])]
    refine ⟨fun h => ?_, fun h => ?_⟩
    · have hne : a0 ≠ bs.length := by simpa using h
      simp only [c69r1, k_call, k_some, o_mov, o_nilck, o_faddr, g_cons, p_some, a_tmp, wp_reg, evQ, Nat.reduceEqDiff, Nat.succ_ne_zero, Nat.zero_add, if_false, if_true]
      rw [o_store (by simp only [g_cons, a_tmp, Nat.reduceEqDiff, Nat.succ_ne_zero, if_false, if_true]; rfl)]
      simp only [c69r2, r_getJ hi, r_setJ, k_call, k_seq, k_reg, k_some, o_nil, o_mov, o_load, o_nilck, o_faddr, g_cons, p_some, p_none, a_tmp, a_u8_7, wp_seq, wp_reg, wp_ret, q_thenN, evQ, Nat.reduceEqDiff, Nat.reduceAdd, Nat.succ_ne_zero, ld_ref, AV.cells?, List.length_cons, List.length_nil, Nat.zero_add, partA, List.getElem?_cons_zero, List.getElem?_cons_succ, List.drop_zero, List.drop_succ_cons, List.take_succ_cons, List.take_zero, putAt, List.nil_append, List.cons_append, List.drop_nil, List.append_nil, Nat.le_refl, true_and, and_true, Bool.false_eq_true, if_false, if_true]
      refine fin_tmp (.inr rfl) ?_
      simp only [endR, hne, ne_eq, not_false_eq_true, and_self, g_cons, Nat.reduceEqDiff, Nat.succ_ne_zero, if_false, if_true]
      refine fin_r0 (bs := bs) (r := ⟨a0, 0⟩) (r' := ⟨a0, 7⟩) ?_
      exact ⟨frz_sc, rfl⟩
    · have hne : a0 = bs.length := by simpa using h
      simp only [c69r2, r_getJ hi, k_call, k_seq, k_reg, k_some, o_nil, o_mov, o_load, o_nilck, o_faddr, g_cons, p_some, a_tmp, wp_seq, wp_reg, wp_skip, wp_ret, q_thenN, evQ, Nat.reduceEqDiff, Nat.reduceAdd, Nat.succ_ne_zero, ld_ref, List.length_cons, List.length_nil, Nat.zero_add, partA, List.getElem?_cons_zero, List.getElem?_cons_succ, List.drop_zero, List.drop_succ_cons, List.take_succ_cons, List.take_zero, Nat.le_refl, Bool.false_eq_true, if_false, if_true]
      refine fin_tmp (.inr rfl) ?_
      simp only [endR, hne, ne_eq, not_true_eq_false, and_false, g_cons, Nat.reduceEqDiff, Nat.succ_ne_zero, if_false, if_true]
      refine fin_r0 (bs := bs) (r := ⟨bs.length, 0⟩) (r' := ⟨bs.length, 0⟩) ?_
      exact ⟨frz_sc, rfl⟩
  · have hd : decide (e0 = 0) = false := by simpa using he
    simp only [hd]
    (repeat rw [d_gF (v := false) (by simp only [g_cons, Nat.reduceEqDiff, Nat.succ_ne_zero, if_false, if_true]) rfl (by decide)]; simp only [p_some])
    simp only [k_drw, d_nil, d_pick, k_seq, k_reg, k_some, g_cons, p_some, a_tmp, a_bool, q_thenN, evQ, Nat.reduceEqDiff, Nat.succ_ne_zero, Bool.false_eq_true, if_false, if_true]
    rw [wp_cond (v := false) (by simp only [g_cons, a_tmp, Nat.reduceEqDiff, Nat.succ_ne_zero, if_false, if_true])]
    refine ⟨(fun h => by cases h), fun _ => ?_⟩
    simp only [c69r2, r_getJ hi, k_call, k_seq, k_reg, k_some, o_nil, o_mov, o_load, o_nilck, o_faddr, g_cons, p_some, a_tmp, wp_seq, wp_reg, wp_skip, wp_ret, q_thenN, evQ, Nat.reduceEqDiff, Nat.reduceAdd, Nat.succ_ne_zero, ld_ref, List.length_cons, List.length_nil, Nat.zero_add, partA, List.getElem?_cons_zero, List.getElem?_cons_succ, List.drop_zero, List.drop_succ_cons, List.take_succ_cons, List.take_zero, Nat.le_refl, Bool.false_eq_true, if_false, if_true]
    refine fin_tmp (.inr rfl) ?_
    simp only [endR, he, false_and, g_cons, Nat.reduceEqDiff, Nat.succ_ne_zero, if_false, if_true]
    refine fin_r0 (bs := bs) (r := ⟨a0, e0⟩) (r' := ⟨a0, e0⟩) ?_
    exact ⟨frz_sc, rfl⟩

def eventsR (bs : List UInt8) : Except Nat (List Ev) := if (endR bs (listR bs ⟨0, 0⟩).2).e ≠ 0 then .error (endR bs (listR bs ⟨0, 0⟩).2).e else .ok (listR bs ⟨0, 0⟩).1
def evsV : Except Nat (List Ev) → AV
  | .ok l => .tup [.sl false (l.map evA), .sc (.int .u8 0)]
  | .error e => .tup [.sl false [], .sc (.int .u8 (e : Nat))]
def proofR (bs : List UInt8) : Except Nat (List Nd) := match eventsR bs with
  | .error e => .error e
  | .ok l => if l.all (fun e => decide (e.kind = 0)) then .ok (l.map Ev.n) else .error 7
def ndsV : Except Nat (List Nd) → AV
  | .ok l => .tup [.sl false (l.map ndA), .sc (.int .u8 0)]
  | .error e => .tup [.sl false [], .sc (.int .u8 (e : Nat))]

theorem frz_tup2 {st' : List AO} {m : Nat} {fl : Bool} {xs : List AV} {a : Value} : ((AV.tup [.sl fl xs, .sc a]).frz st' m).nrmT = .tup [.sl false xs, .sc a] := by
  simp only [AV.frz, AV.frzV, AV.nrmT, List.map_cons, List.map_nil, frzC_sl, frzC_sc]; rfl
theorem fin_tup2 {st' : List AO} {m : Nat} {v : AV} {a : Value} {xs : List AV} (h : (v.frzC st' m).nrmC = .sl false xs) (hn : ∀ cs, v ≠ .agg cs) : ((AV.tup [v, .sc a]).frz st' m).nrmT = .tup [.sl false xs, .sc a] := by
  have h1 : v.frzV st' m = v.frzC st' m := by
    cases v <;> first | rfl | exact absurd rfl (hn _)
  have h2 : ∀ y : AV, y.nrmC = .sl false xs → y.nrm = .sl false xs := by
    intro y hy
    cases y <;> first | exact hy | cases hy
  simp only [AV.frz, AV.nrmT, List.map_cons, List.map_nil, h1, h2 _ h]
  simp only [AV.frzV, frzC_sc]; rfl

set_option maxHeartbeats 1000000 in
theorem call32 {st : List AO} {bs : List UInt8} : ACall Tryz.prog 32 [bA bs] st (fun x s => x = evsV (eventsR bs) ∧ s = st) := by
  refine acall_t t32 (by simp) ?_
  simp only [c32, c32r0, bA, fillA, k_call, k_seq, k_reg, k_some, k_box, o_nil, o_mov, o_build, o_box, g_cons, p_some, a_tmp, a_nil, a_u8_0, wp_seq, wp_reg, q_thenN, argE, List.map_cons, List.map_nil, Nat.reduceEqDiff, Nat.reduceAdd, Option.map_some, Nat.succ_ne_zero, AV.cells?, List.length_cons, List.length_nil, Nat.zero_add, List.drop_zero, List.drop_succ_cons, List.take_zero, List.nil_append, List.cons_append, Nat.reduceLeDiff, and_true, if_false, if_true]
  obtain ⟨S, hSl, hS⟩ : ∃ S : List AO, S.length = st.length + 1 ∧ ∀ o, S.set st.length o = st ++ [o] := ⟨st ++ [.dead], by simp, fun o => set_last⟩
  have hi : st.length < S.length := by omega
  have h0 : st ++ [AO.cells [.sl false (bs.map u8A), .sc (.int .i64 0), .sc (.int .u8 0)]] = S.set st.length (rdO bs ⟨0, 0⟩) := by rw [hS]; rfl
  rw [h0]
  have ha0 : (RS.mk 0 0).ok bs := Nat.zero_le _
  have hE : eventsR bs = if (endR bs (listR bs ⟨0, 0⟩).2).e ≠ 0 then .error (endR bs (listR bs ⟨0, 0⟩).2).e else .ok (listR bs ⟨0, 0⟩).1 := rfl
  rw [hE]
  simp only [c32r1, o_mov, o_mkfn, o_call, g_cons, p_some, a_tmp, a_fun, fn_call, List.map_cons, List.map_nil, Nat.reduceEqDiff, Nat.succ_ne_zero, List.length_cons, List.length_nil, Nat.zero_add, List.append_nil, if_false, if_true]
  refine (call67 ha0 hi).mono ?_
  rintro x s ⟨rfl, rfl⟩
  have hok := listR_ok ha0
  generalize listR bs ⟨0, 0⟩ = q at *
  obtain ⟨l, r1⟩ := q
  simp only at *
  simp only [c32r2, k_call, k_seq, k_reg, o_nil, o_mov, o_call, g_cons, p_some, a_tmp, a_fun, wp_seq, wp_reg, q_thenN, fn_call, List.map_cons, List.map_nil, Nat.reduceEqDiff, Nat.succ_ne_zero, if_false, if_true]
  refine (call69 hok S st.length hi).mono ?_
  rintro x s ⟨rfl, rfl⟩
  generalize endR bs r1 = r2 at *
  simp only [u8ne, k_call, k_seq, k_reg, k_some, o_nil, o_mov, o_bin, g_cons, p_some, a_tmp, a_u8_0, wp_seq, wp_reg, q_thenN, binA, binInts, binI, Nat.reduceEqDiff, Nat.succ_ne_zero, if_false, if_true]
  rw [wp_cond (v := decide (r2.e ≠ 0)) (by simp only [g_cons, a_tmp, Nat.reduceEqDiff, Nat.succ_ne_zero, if_false, if_true])]
  refine ⟨fun h => ?_, fun h => ?_⟩
  · have he : r2.e ≠ 0 := by simpa using h
    simp only [c32r3, k_seq, k_reg, o_nil, o_mov, g_cons, p_some, a_tmp, a_nil, wp_seq, wp_reg, wp_ret, q_thenN, q_thenR, Nat.reduceEqDiff, Nat.succ_ne_zero, if_false, if_true]
    refine fin_tmp2 (.inr rfl) ?_
    simp only [he, ne_eq, not_false_eq_true, evsV, g_cons, Nat.reduceEqDiff, Nat.succ_ne_zero, if_false, if_true]
    rw [hS]
    refine fin_preN ⟨_, rfl⟩ ⟨?_, rfl⟩
    exact frz_tup2
  · have he : ¬ r2.e ≠ 0 := by simpa using h
    simp only [c32r4, k_seq, k_reg, o_nil, o_mov, g_cons, p_some, a_tmp, a_u8_0, wp_seq, wp_reg, wp_skip, wp_ret, q_thenN, Nat.reduceEqDiff, Nat.succ_ne_zero, if_false, if_true]
    refine fin_tmp2 (.inr rfl) ?_
    simp only [he, evsV, g_cons, Nat.reduceEqDiff, Nat.succ_ne_zero, if_false, if_true]
    rw [hS]
    refine fin_preN ⟨_, rfl⟩ ⟨?_, rfl⟩
    exact frz_tup2

theorem manyR_bound {bs : List UInt8} {n : Nat} {r : RS} : (manyR (eventR bs) n r).1.length ≤ n := manyR_len
theorem eventsR_len {bs : List UInt8} {l : List Ev} (h : eventsR bs = .ok l) : l.length ≤ 1048576 := by
  unfold eventsR at h
  split at h
  · cases h
  · injection h with h; subst h
    have := manyR_len (f := eventR bs) (n := (countR bs 1048576 ⟨0, 0⟩).1) (r := (countR bs 1048576 ⟨0, 0⟩).2)
    have h2 := (countR_ok (most := 1048576) (show (RS.mk 0 0).ok bs from Nat.zero_le _)).2
    simp only [listR]
    omega

set_option maxHeartbeats 2000000 in
theorem call15 {st : List AO} {bs : List UInt8} : ACall Tryz.prog 15 [bA bs] st (fun x s => x = ndsV (proofR bs) ∧ s = st) := by
  refine acall_t t15 (by simp) ?_
  simp only [c15, c15r0, k_seq, k_reg, o_nil, o_mov, o_call, g_cons, p_some, a_tmp, a_fun, a_nil, a_u8_0, wp_seq, wp_reg, q_thenN, fn_call, argE, List.map_cons, List.map_nil, Nat.reduceEqDiff, Nat.succ_ne_zero, if_false, if_true]
  refine call32.mono ?_
  rintro x st ⟨rfl, rfl⟩
  cases hu : eventsR bs with
  | error e =>
    have he : e ≠ 0 := by
      unfold eventsR at hu
      split at hu
      · rename_i he; injection hu with hu; subst hu; exact he
      · cases hu
    simp only [evsV, u8ne, List.getElem?_cons_zero, List.getElem?_cons_succ, k_call, k_seq, k_reg, k_some, o_nil, o_mov, o_bin, o_ext, g_cons, p_some, a_tmp, a_u8_0, wp_seq, wp_reg, q_thenN, evQ, binA, binInts, binI, Nat.reduceEqDiff, Nat.succ_ne_zero, List.getElem?_cons_zero, List.getElem?_cons_succ, if_false, if_true]
    rw [wp_cond (v := true) (by simp only [he, ne_eq, not_false_eq_true, decide_true, g_cons, a_tmp, Nat.reduceEqDiff, Nat.succ_ne_zero, if_false, if_true])]
    refine ⟨fun _ => ?_, (fun h => by cases h)⟩
    simp only [c15r1, k_seq, k_reg, o_nil, o_mov, g_cons, p_some, a_tmp, a_nil, wp_seq, wp_reg, wp_ret, q_thenN, q_thenR, Nat.reduceEqDiff, Nat.succ_ne_zero, if_false, if_true]
    refine fin_tmp2 (.inr rfl) ?_
    simp only [proofR, hu, ndsV, g_cons, Nat.reduceEqDiff, Nat.succ_ne_zero, if_false, if_true]
    have := fin_preN (st := st) (st' := st) (R := fun x s => x = .tup [.sl false [], .sc (.int .u8 (e : Nat))] ∧ s = st) (x := .tup [.sl true [], .sc (.int .u8 (e : Nat))]) ⟨[], by simp⟩ ⟨frz_tup2, rfl⟩
    exact this
  | ok l =>
    have hll := eventsR_len hu
    simp only [evsV, List.getElem?_cons_zero, List.getElem?_cons_succ, k_call, k_seq, k_reg, k_some, o_nil, o_mov, o_bin, o_ext, g_cons, p_some, a_tmp, a_u8_0, wp_seq, wp_reg, q_thenN, evQ, binA, binInts, binI, Nat.reduceEqDiff, Nat.succ_ne_zero, List.getElem?_cons_zero, List.getElem?_cons_succ, if_false, if_true]
    rw [wp_cond (v := false) (by simp only [g_cons, a_tmp, Nat.reduceEqDiff, Nat.succ_ne_zero, if_false, if_true]; rfl)]
    refine ⟨(fun h => by cases h), fun _ => ?_⟩
    simp only [c15r2, List.length_map, k_call, k_seq, k_reg, k_some, o_nil, o_mov, o_len, g_cons, p_some, a_tmp, a_nil, a_i64_0, wp_seq, wp_reg, wp_skip, wp_block, wp_loop, q_thenN, slen, lenA, Nat.reduceEqDiff, Nat.succ_ne_zero, if_false, if_true]
    intro _
    refine loop_rule (fun (k : Nat) E st' => k ≤ l.length ∧ (∀ e ∈ l.take k, e.kind = 0) ∧ ∃ v ext, st' = st ++ ext ∧ E = [(6, v), (17, .sl false (l.map evA)), (18, .sc (.int .i64 (l.length : Nat))), (19, .sc (.int .i64 (k : Nat)))] ∧ IsBuf st.length 38 5 (st ++ ext) v (((l.take k).map Ev.n).map ndA)) (fun k => l.length - k)
      0 [(6, .sl true []), (17, .sl false (l.map evA)), (18, .sc (.int .i64 (l.length : Nat))), (19, .sc (.int .i64 0))] (by simp only [SubE, g_cons, Nat.reduceEqDiff, Nat.succ_ne_zero, and_true, if_false, if_true]) ⟨Nat.zero_le _, by simp, _, [], by simp, rfl, .inl (by simp)⟩ ?_
    rintro k E st' ⟨hk, hz, v, ext, rfl, rfl, hv⟩
    simp only [c15l6, k_call, k_seq, k_reg, k_some, o_nil, o_bin, g_cons, p_some, a_tmp, wp_seq, wp_reg, q_thenN, binA, binInts, binI, Nat.reduceEqDiff, if_false, if_true]
    rw [wp_cond (v := decide (k < l.length)) (by simp only [dec_lt, g_cons, a_tmp, Nat.reduceEqDiff, if_false, if_true])]
    refine ⟨fun h => ?_, fun h => ?_⟩
    · have hk1 : k < l.length := by simpa using h
      obtain ⟨e, ht, hmem⟩ := get_lt hk1
      have ht' : (l.map evA)[k]? = some (evA e) := get_map ht
      simp only [evA] at ht'
      simp only [c15r3, List.length_map, hk1, ld_full (sz := 7) ht' rfl, k_call, k_seq, k_some, o_load, o_iaddr, o_alloc, g_cons, p_some, a_tmp, wp_seq, wp_reg, wp_skip, wp_block, q_thenN, evQ, slen, natA_nat, Nat.reduceEqDiff, if_false, if_true]
      rw [o_store (by simp only [g_cons, a_tmp, Nat.reduceEqDiff, if_false, if_true]; rfl)]
      simp only [c15r4, k_call, k_seq, k_reg, k_some, o_nil, o_load, o_bin, o_faddr, g_cons, p_some, p_none, a_tmp, a_i64_0, wp_seq, wp_reg, q_thenN, evQ, binA, binInts, binI, Nat.reduceEqDiff, Nat.reduceAdd, ld_ref, get_last, set_last, AV.cells?, List.length_cons, List.length_nil, Nat.zero_add, partA, List.getElem?_cons_zero, List.drop_zero, List.drop_succ_cons, List.take_succ_cons, List.take_zero, putAt, List.nil_append, List.drop_nil, List.append_nil, Nat.reduceLeDiff, Nat.le_refl, true_and, and_true, Bool.false_eq_true, if_false, if_true]
      rw [wp_cond (v := e.kind != 0) (by simp only [g_cons, a_tmp, Nat.reduceEqDiff, if_false, if_true])]
      refine ⟨fun h => ?_, fun h => ?_⟩
      · have hne : e.kind ≠ 0 := by simpa using h
        have hal : (l.all fun e => decide (e.kind = 0)) = false := by
          rw [Bool.eq_false_iff]
          intro hc
          have := List.all_eq_true.1 hc e hmem
          simp at this; exact hne this
        simp only [k_seq, k_reg, o_nil, o_mov, p_some, a_nil, a_u8_7, wp_seq, wp_reg, wp_ret, q_thenN, q_thenR, q_blkR, q_nxtR]
        refine fin_tmp2 (.inr rfl) ?_
        simp only [proofR, hu, hal, ndsV, g_cons, Nat.reduceEqDiff, Bool.false_eq_true, if_false, if_true]
        refine fin_preN ⟨_, List.append_assoc ..⟩ ⟨?_, rfl⟩
        exact frz_tup2
      · have heq : e.kind = 0 := by simpa using h
        simp only [c15r5, k_call, k_seq, k_some, o_mov, o_load, o_faddr, g_cons, p_some, a_tmp, wp_reg, wp_skip, q_thenN, evQ, Nat.reduceEqDiff, Nat.reduceAdd, ld_ref, get_last, List.length_cons, List.length_nil, Nat.zero_add, partA, List.getElem?_cons_zero, List.getElem?_cons_succ, List.drop_zero, List.drop_succ_cons, List.take_succ_cons, List.take_zero, Nat.le_refl, if_false, if_true]
        rw [o_mksl (by intro y hy; simp only [List.mem_singleton] at hy; subst hy; simp only [g_cons, a_tmp, Nat.reduceEqDiff, if_false, if_true]; rfl)]
        simp only [o_app, g_cons, p_some, a_tmp, List.map_cons, List.map_nil, Nat.reduceEqDiff, if_false, if_true]
        refine ⟨(by intro x hx; simp only [List.mem_singleton] at hx; subst hx; exact ⟨rfl, rfl⟩), ?_⟩
        rw [List.append_assoc]
        refine app_buf (cur := ((l.take k).map Ev.n).map ndA) (zs := [ndA e.n]) ?_ ?_ ?_ ?_ ?_ ?_ ?_
        · simpa only [k_call, k_seq, k_reg, k_some, k_box, k_tt, k_ff, k_tf, k_ft, k_un, o_nil, o_grdM, Bool.true_eq_false, Bool.not_true, Bool.not_false, o_mov, o_pick, o_build, o_load, o_nilck, o_bin, o_un, o_cvi, o_mkfn, o_faddr, o_slc, o_ext, o_iaddr, o_len, o_alloc, o_box, o_call, o_app, g_cons, p_some, p_none, a_tmp, a_fun, a_bool, a_nil, a_i64_0, a_i64_1, a_i64_2, a_i64_3, a_i64_5, a_i64_7, a_i64_8, a_i64_9, a_i64_10, a_i64_20, a_i64_60, a_i64_256, a_i64_400, a_i64_1000, a_i64_m1000, a_i64_m1, a_i64_2147483648, a_i64_m2147483648, a_i64_2147483647, a_u8_0, a_u8_1, a_u8_7, a_u8_10, a_u8_128, a_u64_0, a_u64_1, a_u64_7, a_u64_63, a_u64_128, a_u64_1048576, a_u64_4096, wp_seq, wp_reg, wp_skip, wp_ret, wp_exit, wp_block, wp_loop, q_thenN, q_thenR, q_thenE, q_blkN, q_blkR, q_blkE, q_nxtN, q_nxtR, q_nxtE, fn_call, evQ, binA, binInts, binI, slen, lenA, natA_nat, natA_0, argE, List.map_cons, List.map_nil, Nat.reduceEqDiff, Nat.reduceAdd, reduceIte, Option.map_some, Option.map_none, Option.isSome_some, Option.isSome_none, Nat.succ_ne_zero, ld_ref, get_last, get_last2, get_mid, get_mid1, get_mid2, set_last, set_last2, set_mid, AV.cells?, List.length_cons, List.length_nil, Nat.zero_add, partA, List.getElem?_cons_zero, List.getElem?_cons_succ, List.drop_zero, List.drop_succ_cons, List.take_succ_cons, List.take_zero, putAt, List.nil_append, List.cons_append, List.drop_nil, List.append_nil, Nat.reduceLeDiff, Nat.le_refl, true_and, and_true, Bool.false_eq_true, if_false, if_true] using hv.push
        · simp only [g_cons, a_tmp, Nat.reduceEqDiff, if_false, if_true]; rfl
        · exact (by intro x hx; simp only [List.mem_singleton] at hx; subst hx; exact ⟨rfl, rfl⟩)
        · exact nd_cells5
        · simp only [List.length_map, List.length_take, List.length_singleton]; omega
        · simp only [List.length_map, List.length_take, List.length_singleton]; omega
        intro v' ext' hv'
        simp only [wrap_succ (show k < 9223372036854775807 by omega), k_call, k_seq, k_reg, k_some, o_nil, o_mov, o_bin, g_cons, p_some, a_tmp, a_i64_1, wp_reg, q_thenN, q_blkN, q_nxtN, binA, binInts, binI, Nat.reduceEqDiff, true_and, if_false, if_true]
        refine ⟨_, (?_ : SubE [(6, _), (17, _), (18, _), (19, _)] _), k + 1, by omega, by omega, fun e' he' => ?_, v', ext', rfl, rfl, ?_⟩
        · simp only [SubE, g_cons, Nat.reduceEqDiff, and_true, if_false, if_true]
        · rw [take_succ ht] at he'
          rcases List.mem_append.1 he' with h1 | h1
          · exact hz e' h1
          · simp only [List.mem_singleton] at h1; subst h1; exact heq
        · rw [take_succ ht, List.map_append, List.map_append]; exact hv'
    · have hk0 : k = l.length := by have : ¬ k < l.length := by simpa using h
                                    omega
      subst hk0
      rw [List.take_length] at hv hz
      have hal : (l.all fun e => decide (e.kind = 0)) = true := List.all_eq_true.2 fun e he => by simpa using hz e he
      simp only [c15r7, k_seq, k_reg, o_nil, o_mov, g_cons, p_some, a_tmp, a_u8_0, wp_seq, wp_reg, wp_ret, wp_exit, q_thenN, q_thenE, q_blkE, q_nxtE, Nat.reduceEqDiff, if_false, if_true]
      refine fin_tmp2 (.inr rfl) ?_
      simp only [proofR, hu, hal, ndsV, g_cons, Nat.reduceEqDiff, if_false, if_true]
      refine fin_preN ⟨_, rfl⟩ ⟨?_, rfl⟩
      exact fin_tup2 (hv.frzC (by omega)) (fun cs h => by rcases hv with h1 | ⟨_, _, h1, _⟩ <;> (rw [h1] at h; cases h))
end Go.AW

/-
  What is the same: terms.
-/
namespace Go.AW
open Go Go.RowKit Go.Proofs
set_option linter.unusedVariables false
set_option linter.unusedSimpArgs false
set_option maxRecDepth 100000

mutual
/-- Variables have no parts. -/
def Tm.canon : Tm → Tm
  | .mk F L => .mk F (if F < 0 then [] else Tm.canonL L)
def Tm.canonL : List Tm → List Tm
  | [] => []
  | t :: r => t.canon :: Tm.canonL r
end
theorem canonL_map : ∀ {L : List Tm}, Tm.canonL L = L.map Tm.canon
  | [] => rfl
  | t :: r => by simp only [Tm.canonL, List.map_cons, canonL_map]
def Li.canon (l : Li) : Li := ⟨l.neg, l.a.canon, l.b.canon⟩
def Nd.canon (n : Nd) : Nd := ⟨n.id, n.rule, n.p, n.q, n.c.map Li.canon⟩

theorem d_lenB {P : Program} {N : Nat} {rd : Option Nat} {mk : List Nat} {r : List DI} {en : Env} {st : List AO} {hist : List (List AO)} {pend : List (Nat × (List AO → Prop))} {K : Env → List AO → Prop} {d : Option Nat} {b : Nat} {s : Bool} {x : Operand} {v : AV} (h : lenA s (opA en x) = some v) (hr : drawC P N rd mk r (putE en d v) st hist pend K) : drawC P N rd mk (⟨⟨d, none, .len s x⟩, 1, b, 0⟩ :: r) en st hist pend K := by
  simp only [drawC, guardV, opC, h]
  exact ⟨v, fun _ => ⟨rfl, trivial⟩, fun s _ _ => ⟨rfl, trivial⟩, by simpa using hr⟩

theorem call177 {st : List AO} {n : Int} : ACall Tryz.prog 177 [.sc (.int .i64 n)] st (fun x s => x = .sc (.bool false) ∧ s = st) := by
  refine acall_t t177 (by simp) ?_
  simp only [c177, c177r0, bne_self_eq_false, k_call, k_seq, k_reg, k_some, o_nil, o_mov, o_bin, g_cons, p_some, a_tmp, a_bool, wp_seq, wp_reg, wp_ret, q_thenN, binA, binInts, binI, argE, Nat.reduceEqDiff, Nat.succ_ne_zero, if_false, if_true]
  refine fin_tmp (.inr rfl) ?_
  simp only [g_cons, Nat.reduceEqDiff, Nat.succ_ne_zero, if_false, if_true]
  exact fin_keep0 ⟨frz_sc, rfl⟩

theorem call129 {st : List AO} {n : Int} : ACall Tryz.prog 129 [.sc (.int .i64 n), .sc (.int .i64 n)] st (fun x s => x = .sc (.int .i64 0) ∧ s = st) := by
  refine acall_t t129 (by simp) ?_
  simp only [c129, c129r0, k_seq, k_reg, o_nil, o_mov, o_call, g_cons, p_some, a_tmp, a_fun, a_i64_0, wp_seq, wp_reg, q_thenN, fn_call, argE, List.map_cons, List.map_nil, Nat.reduceEqDiff, Nat.succ_ne_zero, Nat.zero_add, if_false, if_true]
  refine call177.mono ?_
  rintro x st ⟨rfl, rfl⟩
  simp only [c129r1, k_call, k_seq, k_reg, o_nil, o_mov, o_call, g_cons, p_some, a_tmp, a_fun, wp_seq, wp_reg, q_thenN, fn_call, List.map_cons, List.map_nil, Nat.reduceEqDiff, Nat.succ_ne_zero, if_false, if_true]
  refine call177.mono ?_
  rintro x st ⟨rfl, rfl⟩
  simp only [k_call, k_seq, k_reg, o_nil, o_mov, g_cons, p_some, a_tmp, wp_seq, wp_reg, q_thenN, Nat.reduceEqDiff, Nat.succ_ne_zero, if_false, if_true]
  rw [wp_cond (v := false) (by simp only [g_cons, a_tmp, Nat.reduceEqDiff, Nat.succ_ne_zero, if_false, if_true])]
  refine ⟨(fun h => by cases h), fun _ => ?_⟩
  simp only [k_seq, k_reg, o_nil, o_mov, g_cons, p_some, a_tmp, wp_seq, wp_reg, wp_skip, q_thenN, Nat.reduceEqDiff, Nat.succ_ne_zero, if_false, if_true]
  rw [wp_cond (v := false) (by simp only [g_cons, a_tmp, Nat.reduceEqDiff, Nat.succ_ne_zero, if_false, if_true])]
  refine ⟨(fun h => by cases h), fun _ => ?_⟩
  simp only [c129r2, Int.lt_irrefl, decide_false, k_call, k_seq, k_reg, k_some, o_nil, o_mov, o_bin, g_cons, p_some, a_tmp, wp_seq, wp_reg, wp_skip, q_thenN, binA, binInts, binI, Nat.reduceEqDiff, Nat.succ_ne_zero, if_false, if_true]
  rw [wp_cond (v := false) (by simp only [g_cons, a_tmp, Nat.reduceEqDiff, Nat.succ_ne_zero, if_false, if_true])]
  refine ⟨(fun h => by cases h), fun _ => ?_⟩
  simp only [c129r3, gt_iff_lt, Int.lt_irrefl, decide_false, k_call, k_seq, k_reg, k_some, o_nil, o_mov, o_bin, g_cons, p_some, a_tmp, wp_seq, wp_reg, wp_skip, q_thenN, binA, binInts, binI, Nat.reduceEqDiff, Nat.succ_ne_zero, if_false, if_true]
  rw [wp_cond (v := false) (by simp only [g_cons, a_tmp, Nat.reduceEqDiff, Nat.succ_ne_zero, if_false, if_true])]
  refine ⟨(fun h => by cases h), fun _ => ?_⟩
  simp only [k_seq, k_reg, o_nil, o_mov, p_some, a_i64_0, wp_seq, wp_reg, wp_skip, wp_ret, q_thenN]
  refine fin_tmp (.inr rfl) ?_
  simp only [g_cons, Nat.reduceEqDiff, Nat.succ_ne_zero, if_false, if_true]
  exact fin_keep0 ⟨frz_sc, rfl⟩

theorem or0 : checkM tab 100 (128, [.sl false [.sc (.int .i64 0), .sc (.int .i64 0), .sc (.int .i64 0)]], .sc (.int .i64 0)) = true := by kernel_rfl
theorem call128 {st : List AO} : ACall Tryz.prog 128 [.sl true [.sc (.int .i64 0), .sc (.int .i64 0), .sc (.int .i64 0)]] st (fun x s => x = .sc (.int .i64 0) ∧ s = st) := by
  obtain ⟨h1, h2⟩ := checkM_ok tabOk or0 _ (List.mem_singleton.2 rfl)
  exact ACall.nrm (ACall.frame h2 h1)

set_option maxHeartbeats 1000000 in
theorem call178 {L : List Tm} (h : ∀ t ∈ L, ∀ st : List AO, ACall Tryz.prog 131 [tmA t, tmA t.canon] st (fun x s => x = .sc (.int .i64 0) ∧ s = st)) {st : List AO} :
    ACall Tryz.prog 178 [.sl false (tmAL L), .sl false (tmAL (L.map Tm.canon)), .fn 131 0 []] st (fun x s => x = .sc (.int .i64 0) ∧ s = st) := by
  have l1 : (tmAL L).length = L.length := by rw [tmAL_map, List.length_map]
  have l2 : (tmAL (L.map Tm.canon)).length = L.length := by rw [tmAL_map, List.length_map, List.length_map]
  refine acall_t t178 (by simp) ?_
  simp only [c178, c178r0, l1, k_call, k_seq, k_reg, k_some, o_nil, o_mov, o_len, g_cons, p_some, a_tmp, a_i64_0, wp_seq, wp_reg, wp_block, wp_loop, q_thenN, slen, lenA, argE, Nat.reduceEqDiff, Nat.reduceAdd, Nat.succ_ne_zero, Nat.zero_add, if_false, if_true]
  intro hn
  have hn' : L.length ≤ 140737488355328 := hn _ rfl
  refine loop_rule (fun (k : Nat) E st' => k ≤ L.length ∧ (∃ ext, st' = st ++ ext) ∧ E = [(0, .sl false (tmAL L)), (1, .sl false (tmAL (L.map Tm.canon))), (2, .fn 131 0 []), (11, .sl false (tmAL L)), (12, .sc (.int .i64 (L.length : Nat))), (13, .sc (.int .i64 (k : Nat)))]) (fun k => L.length - k)
    0 [(0, .sl false (tmAL L)), (1, .sl false (tmAL (L.map Tm.canon))), (2, .fn 131 0 []), (11, .sl false (tmAL L)), (12, .sc (.int .i64 (L.length : Nat))), (13, .sc (.int .i64 0))] (by simp only [SubE, g_cons, Nat.reduceEqDiff, Nat.succ_ne_zero, and_true, if_false, if_true]) ⟨Nat.zero_le _, ⟨[], by simp⟩, rfl⟩ ?_
  rintro k E st' ⟨hk, ⟨ext, rfl⟩, rfl⟩
  simp only [c178l5, k_call, k_seq, k_reg, k_some, o_nil, o_bin, g_cons, p_some, a_tmp, wp_seq, wp_reg, q_thenN, binA, binInts, binI, Nat.reduceEqDiff, Nat.succ_ne_zero, if_false, if_true]
  rw [wp_cond (v := decide (k < L.length)) (by simp only [dec_lt, g_cons, a_tmp, Nat.reduceEqDiff, Nat.succ_ne_zero, if_false, if_true])]
  refine ⟨fun hd => ?_, fun hd => ?_⟩
  · have hk1 : k < L.length := by simpa using hd
    obtain ⟨t, ht, hmem⟩ := get_lt hk1
    have hc := h t hmem
    have e1 : (tmAL L)[k]? = some (tmA t) := by rw [tmAL_map]; exact get_map ht
    have e2 : (tmAL (L.map Tm.canon))[k]? = some (tmA t.canon) := by rw [tmAL_map]; exact get_map (get_map ht)
    obtain ⟨F, M⟩ := t
    rw [Tm.canon] at hc e2
    rw [tmA] at hc e1 e2
    rw [tmA] at hc
    simp only [c178r1, l1, hk1, ld_full (sz := 2) e1 rfl, k_call, k_seq, k_some, o_mov, o_load, o_iaddr, o_alloc, g_cons, p_some, a_tmp, wp_seq, wp_reg, wp_skip, wp_block, q_thenN, evQ, slen, natA_nat, Nat.reduceEqDiff, Nat.succ_ne_zero, if_false, if_true]
    rw [o_store (by simp only [g_cons, a_tmp, Nat.reduceEqDiff, Nat.succ_ne_zero, if_false, if_true]; rfl)]
    simp only [c178r2, l2, k_call, k_seq, k_reg, k_some, o_nil, o_mov, o_bin, o_len, g_cons, p_some, p_none, a_tmp, wp_seq, wp_reg, q_thenN, binA, binInts, binI, slen, lenA, Nat.reduceEqDiff, Nat.reduceAdd, Nat.succ_ne_zero, get_last, set_last, AV.cells?, List.length_cons, List.length_nil, Nat.zero_add, List.drop_succ_cons, List.take_zero, putAt, List.nil_append, List.drop_nil, List.append_nil, Nat.le_refl, true_and, and_true, if_false, if_true]
    intro _
    rw [wp_cond (v := false) (by simp only [g_cons, a_tmp, Nat.reduceEqDiff, Nat.succ_ne_zero, if_false, if_true]; congr 2; simp; omega)]
    refine ⟨(fun h => by cases h), fun _ => ?_⟩
    simp only [c178r3, l2, hk1, ld_full (sz := 2) e2 rfl, k_call, k_seq, k_some, o_mov, o_load, o_iaddr, o_alloc, g_cons, p_some, a_tmp, wp_seq, wp_reg, wp_skip, q_thenN, evQ, slen, natA_nat, Nat.reduceEqDiff, Nat.succ_ne_zero, if_false, if_true]
    rw [o_store (by simp only [g_cons, a_tmp, Nat.reduceEqDiff, Nat.succ_ne_zero, if_false, if_true]; rfl)]
    simp only [c178r4, List.take_zero, List.append_nil, List.nil_append, k_call, k_seq, k_reg, k_some, o_nil, o_mov, o_load, o_call, g_cons, p_some, p_none, a_tmp, wp_seq, wp_reg, q_thenN, fn_call, List.map_cons, List.map_nil, Nat.reduceEqDiff, Nat.reduceAdd, Nat.succ_ne_zero, ld_ref, get_last, get_mid, set_last, AV.cells?, List.length_cons, List.length_nil, Nat.zero_add, partA, List.getElem?_cons_zero, List.drop_zero, List.drop_succ_cons, List.take_succ_cons, List.take_zero, putAt, List.nil_append, List.drop_nil, List.append_nil, Nat.le_refl, true_and, and_true, if_false, if_true]
    refine (hc _).mono ?_
    rintro x s ⟨rfl, rfl⟩
    simp only [bne_self_eq_false, k_call, k_seq, k_reg, k_some, o_nil, o_mov, o_bin, g_cons, p_some, a_tmp, a_i64_0, wp_seq, wp_reg, q_thenN, binA, binInts, binI, Nat.reduceEqDiff, Nat.succ_ne_zero, if_false, if_true]
    rw [wp_cond (v := false) (by simp only [g_cons, a_tmp, Nat.reduceEqDiff, Nat.succ_ne_zero, if_false, if_true])]
    refine ⟨(fun h => by cases h), fun _ => ?_⟩
    simp only [wrap_succ (show k < 9223372036854775807 by omega), k_call, k_seq, k_reg, k_some, o_nil, o_mov, o_bin, g_cons, p_some, a_tmp, a_i64_1, wp_reg, wp_skip, q_thenN, q_blkN, q_nxtN, binA, binInts, binI, Nat.reduceEqDiff, Nat.succ_ne_zero, true_and, if_false, if_true]
    refine ⟨_, (?_ : SubE [(0, _), (1, _), (2, _), (11, _), (12, _), (13, _)] _), k + 1, by omega, by omega, ⟨_, by rw [List.append_assoc, List.append_assoc]⟩, rfl⟩
    simp only [SubE, g_cons, Nat.reduceEqDiff, Nat.succ_ne_zero, and_true, if_false, if_true]
  · have hk0 : k = L.length := by have : ¬ k < L.length := by simpa using hd
                                  omega
    subst hk0
    simp only [c178r6, l1, l2, Int.lt_irrefl, decide_false, k_call, k_seq, k_reg, k_some, o_nil, o_mov, o_bin, o_len, g_cons, p_some, a_tmp, wp_seq, wp_reg, wp_exit, q_thenN, q_thenE, q_blkE, q_nxtE, binA, binInts, binI, slen, lenA, Nat.reduceEqDiff, Nat.succ_ne_zero, if_false, if_true]
    intro _ _
    rw [wp_cond (v := false) (by simp only [g_cons, a_tmp, Nat.reduceEqDiff, Nat.succ_ne_zero, if_false, if_true])]
    refine ⟨(fun h => by cases h), fun _ => ?_⟩
    simp only [k_seq, k_reg, o_nil, o_mov, p_some, a_i64_0, wp_seq, wp_reg, wp_skip, wp_ret, q_thenN]
    refine fin_tmp (.inr rfl) ?_
    simp only [g_cons, Nat.reduceEqDiff, Nat.succ_ne_zero, if_false, if_true]
    exact fin_pre ⟨_, rfl⟩ ⟨frz_sc, rfl⟩
end Go.AW

/-
  What is the same: terms, literals, clauses, nodes, states.
-/
namespace Go.AW
open Go Go.RowKit Go.Proofs
set_option linter.unusedVariables false
set_option linter.unusedSimpArgs false
set_option maxRecDepth 100000

set_option maxHeartbeats 4000000 in
theorem call131 : ∀ (n : Nat) (t : Tm), SizeOf.sizeOf t < n → ∀ st : List AO, ACall Tryz.prog 131 [tmA t, tmA t.canon] st (fun x s => x = .sc (.int .i64 0) ∧ s = st) := by
  intro n
  induction n with
  | zero => intro t h; omega
  | succ n ih =>
    rintro ⟨F, L⟩ hsz st
    refine acall_t t131 (by simp) ?_
    rw [Tm.canon]
    simp only [c131, c131r0, tmA, k_call, k_seq, k_reg, k_box, o_nil, o_mov, o_box, g_cons, p_some, a_tmp, a_i64_0, wp_seq, wp_reg, q_thenN, argE, Nat.reduceEqDiff, Nat.succ_ne_zero, AV.cells?, Nat.zero_add, if_false, if_true]
    by_cases hF : F < 0
    · have d1 : decide (F < 0) = true := by simpa using hF
      rw [if_pos hF]
      simp only [c131r1, d1, k_call, k_seq, k_reg, k_some, k_tf, o_nil, o_grdM, o_mov, o_pick, o_load, o_bin, o_faddr, g_cons, p_some, a_tmp, a_bool, a_i64_0, q_thenN, evQ, binA, binInts, binI, Nat.reduceEqDiff, Nat.reduceAdd, Nat.succ_ne_zero, ld_ref, get_mid, List.length_cons, List.length_nil, Nat.zero_add, partA, List.getElem?_cons_zero, List.drop_zero, List.take_succ_cons, List.take_zero, Nat.reduceLeDiff, Bool.false_eq_true, if_false, if_true]
      rw [wp_cond (v := true) (by simp only [g_cons, a_tmp, Nat.reduceEqDiff, Nat.succ_ne_zero, if_false, if_true])]
      refine ⟨fun _ => ?_, (fun h => by cases h)⟩
      simp only [c131r2, d1, k_call, k_seq, k_reg, k_some, k_tt, o_nil, o_grdM, o_mov, o_pick, o_load, o_bin, o_faddr, g_cons, p_some, a_tmp, a_bool, a_i64_0, wp_seq, wp_reg, q_thenN, evQ, binA, binInts, binI, Nat.reduceEqDiff, Nat.reduceAdd, Nat.succ_ne_zero, ld_ref, get_last, get_mid, List.length_cons, List.length_nil, Nat.zero_add, partA, List.getElem?_cons_zero, List.drop_zero, List.take_succ_cons, List.take_zero, Nat.reduceLeDiff, Bool.false_eq_true, if_false, if_true]
      rw [wp_cond (v := true) (by simp only [g_cons, a_tmp, Nat.reduceEqDiff, Nat.succ_ne_zero, if_false, if_true])]
      refine ⟨fun _ => ?_, (fun h => by cases h)⟩
      simp only [c131r3, k_call, k_some, o_load, o_faddr, o_call, g_cons, p_some, a_tmp, a_fun, wp_seq, wp_reg, fn_call, evQ, List.map_cons, List.map_nil, Nat.reduceEqDiff, Nat.reduceAdd, Nat.succ_ne_zero, ld_ref, get_last, get_mid, List.length_cons, List.length_nil, Nat.zero_add, partA, List.getElem?_cons_zero, List.drop_zero, List.take_succ_cons, List.take_zero, Nat.reduceLeDiff, Bool.false_eq_true, if_false, if_true]
      refine call129.mono ?_
      rintro x s ⟨rfl, rfl⟩
      simp only [k_call, k_seq, k_reg, o_nil, o_mov, g_cons, p_some, a_tmp, wp_ret, q_thenN, q_thenR, Nat.reduceEqDiff, Nat.succ_ne_zero, if_false, if_true]
      refine fin_tmp (.inr rfl) ?_
      simp only [g_cons, Nat.reduceEqDiff, Nat.succ_ne_zero, if_false, if_true]
      exact fin_pre ⟨_, List.append_assoc ..⟩ ⟨frz_sc, rfl⟩
    · have d1 : decide (F < 0) = false := by simpa using hF
      have l1 : (tmAL L).length = L.length := by rw [tmAL_map, List.length_map]
      have l2 : (tmAL (L.map Tm.canon)).length = L.length := by rw [tmAL_map, List.length_map, List.length_map]
      rw [if_neg hF, canonL_map]
      simp only [c131r1, d1, k_call, k_seq, k_reg, k_some, k_ff, o_nil, o_grdM, o_mov, o_pick, o_load, o_bin, o_faddr, g_cons, p_some, a_tmp, a_bool, a_i64_0, q_thenN, evQ, binA, binInts, binI, Nat.reduceEqDiff, Nat.reduceAdd, Nat.succ_ne_zero, ld_ref, get_last, get_mid, List.length_cons, List.length_nil, Nat.zero_add, partA, List.getElem?_cons_zero, List.drop_zero, List.take_succ_cons, List.take_zero, Nat.reduceLeDiff, Bool.false_eq_true, if_false, if_true]
      rw [wp_cond (v := false) (by simp only [g_cons, a_tmp, Nat.reduceEqDiff, Nat.succ_ne_zero, if_false, if_true])]
      refine ⟨(fun h => by cases h), fun _ => ?_⟩
      simp only [c131d5, k_drw, wp_draw, d_faddr, d_load, k_seq, k_some, g_cons, p_some, a_tmp, wp_seq, wp_skip, q_thenN, evQ, Nat.reduceEqDiff, Nat.reduceAdd, Nat.succ_ne_zero, ld_ref, get_last, get_mid, List.length_cons, List.length_nil, Nat.zero_add, partA, List.getElem?_cons_zero, List.drop_zero, List.take_succ_cons, List.take_zero, Nat.reduceLeDiff, Bool.false_eq_true, if_false, if_true]
      refine d_call2 (x := .sc (.int .i64 0)) (st' := _) (by simp only [g_cons, a_tmp, a_fun, fn_call, List.map_cons, List.map_nil, Nat.reduceEqDiff, Nat.succ_ne_zero, if_false, if_true]; exact call129) (fun p hp => by cases hp) ?_
      simp only [k_drw, d_faddr, k_some, g_cons, p_some, a_tmp, evQ, List.map_nil, Nat.reduceEqDiff, Nat.succ_ne_zero, Nat.zero_add, if_false, if_true]
      refine d_loadB (v := .sl false (tmAL L)) (by simp only [g_cons, a_tmp, Nat.reduceEqDiff, Nat.reduceAdd, Nat.succ_ne_zero, ld_ref, get_mid, List.length_cons, List.length_nil, Nat.zero_add, partA, List.getElem?_cons_zero, List.getElem?_cons_succ, List.drop_zero, List.drop_succ_cons, List.take_succ_cons, List.take_zero, Nat.le_refl, Bool.false_eq_true, if_false, if_true]) (by intro s hs; simp only [List.take_succ_cons, List.take_zero, List.mem_singleton] at hs; subst hs; simp only [g_cons, a_tmp, Nat.reduceEqDiff, Nat.reduceAdd, Nat.succ_ne_zero, ld_ref, get_mid, List.length_cons, List.length_nil, Nat.zero_add, partA, List.getElem?_cons_zero, List.getElem?_cons_succ, List.drop_zero, List.drop_succ_cons, List.take_succ_cons, List.take_zero, Nat.le_refl, Bool.false_eq_true, if_false, if_true]) ?_
      refine d_lenB (v := .sc (.int .i64 (L.length : Nat))) (by simp only [l1, g_cons, p_some, a_tmp, slen, lenA, Nat.reduceEqDiff, Nat.succ_ne_zero, if_false, if_true]) ?_
      simp only [k_drw, d_faddr, k_some, g_cons, p_some, a_tmp, evQ, Nat.reduceEqDiff, Nat.succ_ne_zero, Nat.zero_add, if_false, if_true]
      refine d_loadB (v := .sl false (tmAL (L.map Tm.canon))) (by simp only [g_cons, a_tmp, Nat.reduceEqDiff, Nat.reduceAdd, Nat.succ_ne_zero, ld_ref, get_last, List.length_cons, List.length_nil, Nat.zero_add, partA, List.getElem?_cons_zero, List.getElem?_cons_succ, List.drop_zero, List.drop_succ_cons, List.take_succ_cons, List.take_zero, Nat.le_refl, Bool.false_eq_true, if_false, if_true]) (by intro s hs; simp only [List.take_succ_cons, List.take_zero, List.mem_singleton] at hs; subst hs; simp only [g_cons, a_tmp, Nat.reduceEqDiff, Nat.reduceAdd, Nat.succ_ne_zero, ld_ref, get_last, List.length_cons, List.length_nil, Nat.zero_add, partA, List.getElem?_cons_zero, List.getElem?_cons_succ, List.drop_zero, List.drop_succ_cons, List.take_succ_cons, List.take_zero, Nat.le_refl, Bool.false_eq_true, if_false, if_true]) ?_
      refine d_lenB (v := .sc (.int .i64 (L.length : Nat))) (by simp only [l2, g_cons, p_some, a_tmp, slen, lenA, Nat.reduceEqDiff, Nat.succ_ne_zero, if_false, if_true]) ?_
      refine d_call2 (x := .sc (.int .i64 0)) (st' := _) (by simp only [g_cons, p_some, a_tmp, a_fun, fn_call, List.map_cons, List.map_nil, Nat.reduceEqDiff, Nat.succ_ne_zero, if_false, if_true]; exact call129) (fun p hp => by cases hp) ?_
      simp only [k_drw, d_faddr, k_some, g_cons, p_some, a_tmp, evQ, List.map_nil, Nat.reduceEqDiff, Nat.succ_ne_zero, Nat.zero_add, if_false, if_true]
      refine d_loadB (v := .sl false (tmAL L)) (by simp only [g_cons, a_tmp, Nat.reduceEqDiff, Nat.reduceAdd, Nat.succ_ne_zero, ld_ref, get_mid, List.length_cons, List.length_nil, Nat.zero_add, partA, List.getElem?_cons_zero, List.getElem?_cons_succ, List.drop_zero, List.drop_succ_cons, List.take_succ_cons, List.take_zero, Nat.le_refl, Bool.false_eq_true, if_false, if_true]) (by intro s hs; simp only [List.take_succ_cons, List.take_zero, List.mem_cons, List.not_mem_nil, or_false, or_self] at hs; subst hs; simp only [g_cons, a_tmp, Nat.reduceEqDiff, Nat.reduceAdd, Nat.succ_ne_zero, ld_ref, get_mid, List.length_cons, List.length_nil, Nat.zero_add, partA, List.getElem?_cons_zero, List.getElem?_cons_succ, List.drop_zero, List.drop_succ_cons, List.take_succ_cons, List.take_zero, Nat.le_refl, Bool.false_eq_true, if_false, if_true]) ?_
      simp only [k_drw, d_faddr, k_some, g_cons, p_some, a_tmp, evQ, Nat.reduceEqDiff, Nat.succ_ne_zero, Nat.zero_add, if_false, if_true]
      refine d_loadB (v := .sl false (tmAL (L.map Tm.canon))) (by simp only [g_cons, a_tmp, Nat.reduceEqDiff, Nat.reduceAdd, Nat.succ_ne_zero, ld_ref, get_last, List.length_cons, List.length_nil, Nat.zero_add, partA, List.getElem?_cons_zero, List.getElem?_cons_succ, List.drop_zero, List.drop_succ_cons, List.take_succ_cons, List.take_zero, Nat.le_refl, Bool.false_eq_true, if_false, if_true]) (by intro s hs; simp only [List.take_succ_cons, List.take_zero, List.mem_cons, List.not_mem_nil, or_false, or_self] at hs; subst hs; simp only [g_cons, a_tmp, Nat.reduceEqDiff, Nat.reduceAdd, Nat.succ_ne_zero, ld_ref, get_last, List.length_cons, List.length_nil, Nat.zero_add, partA, List.getElem?_cons_zero, List.getElem?_cons_succ, List.drop_zero, List.drop_succ_cons, List.take_succ_cons, List.take_zero, Nat.le_refl, Bool.false_eq_true, if_false, if_true]) ?_
      refine d_call2 (x := .sc (.int .i64 0)) (st' := _) (by simp only [g_cons, p_some, a_tmp, a_fun, fn_call, List.map_cons, List.map_nil, Nat.reduceEqDiff, Nat.succ_ne_zero, if_false, if_true]; exact call178 (fun t ht st => ih t (by have := size_mem (F := F) ht; omega) st)) (fun p hp => by cases hp) ?_
      rw [d_mksl rfl]
      refine ⟨by simp only [g_cons, p_some, a_tmp, List.map_cons, List.map_nil, Nat.reduceEqDiff, Nat.succ_ne_zero, if_false, if_true]; intro x hx; simp only [List.mem_cons, List.not_mem_nil, or_false, or_self] at hx; subst hx; exact ⟨rfl, rfl⟩, ?_⟩
      refine d_call2 (x := .sc (.int .i64 0)) (st' := _) (by simp only [g_cons, p_some, a_tmp, a_fun, fn_call, List.map_cons, List.map_nil, Nat.reduceEqDiff, Nat.succ_ne_zero, if_false, if_true]; exact call128) (fun p hp => by cases hp) ?_
      simp only [d_nil, d_mov, k_seq, k_reg, g_cons, p_some, a_tmp, wp_ret, q_thenN, List.map_cons, List.map_nil, Nat.reduceEqDiff, Nat.succ_ne_zero, if_false, if_true]
      refine fin_tmp (.inr rfl) ?_
      simp only [g_cons, Nat.reduceEqDiff, Nat.succ_ne_zero, if_false, if_true]
      exact fin_pre ⟨_, List.append_assoc ..⟩ ⟨frz_sc, rfl⟩

theorem call105 {t : Tm} {st : List AO} : ACall Tryz.prog 105 [tmA t, tmA t.canon] st (fun x s => x = .sc (.bool true) ∧ s = st) := by
  have h := fun st => call131 _ t (Nat.lt_succ_self _) st
  obtain ⟨F, L⟩ := t
  rw [Tm.canon] at h ⊢
  simp only [tmA] at h ⊢
  refine acall_t t105 (by simp) ?_
  simp only [c105, c105r0, k_call, k_seq, k_reg, k_box, o_nil, o_mov, o_box, g_cons, p_some, a_tmp, a_bool, wp_seq, wp_reg, q_thenN, argE, Nat.reduceEqDiff, Nat.succ_ne_zero, AV.cells?, Nat.zero_add, if_false, if_true]
  simp only [c105r1, k_call, k_some, o_load, o_call, g_cons, p_some, a_tmp, a_fun, fn_call, List.map_cons, List.map_nil, Nat.reduceEqDiff, Nat.reduceAdd, Nat.succ_ne_zero, ld_ref, get_last, get_mid, List.length_cons, List.length_nil, Nat.zero_add, partA, List.getElem?_cons_zero, List.drop_zero, List.take_succ_cons, List.take_zero, Nat.le_refl, if_false, if_true]
  refine (h _).mono ?_
  rintro x s ⟨rfl, rfl⟩
  simp only [BEq.rfl, k_call, k_seq, k_reg, k_some, o_nil, o_mov, o_bin, g_cons, p_some, a_tmp, a_i64_0, wp_ret, q_thenN, binA, binInts, binI, Nat.reduceEqDiff, Nat.succ_ne_zero, if_false, if_true]
  refine fin_tmp (.inr rfl) ?_
  simp only [g_cons, Nat.reduceEqDiff, Nat.succ_ne_zero, if_false, if_true]
  exact fin_pre ⟨_, List.append_assoc ..⟩ ⟨frz_sc, rfl⟩

theorem liA_canon {neg : Bool} {F G : Int} {L M : List Tm} : liA (Li.canon ⟨neg, .mk F L, .mk G M⟩) = .agg [.sc (.bool neg), .sc (.int .i64 F), .sl false (tmAL (if F < 0 then [] else Tm.canonL L)), .sc (.int .i64 G), .sl false (tmAL (if G < 0 then [] else Tm.canonL M))] := rfl

set_option maxHeartbeats 1000000 in
theorem call71 {l : Li} {st : List AO} : ACall Tryz.prog 71 [liA l, liA l.canon] st (fun x s => x = .sc (.bool true) ∧ s = st) := by
  obtain ⟨neg, ⟨F, L⟩, ⟨G, M⟩⟩ := l
  have h1 := fun st => call105 (t := .mk F L) (st := st)
  have h2 := fun st => call105 (t := .mk G M) (st := st)
  rw [liA_canon]
  simp only [Tm.canon, tmA] at h1 h2
  simp only [liA, Tm.F, Tm.L]
  refine acall_t t71 (by simp) ?_
  simp only [c71, c71r0, k_call, k_seq, k_reg, k_box, o_nil, o_mov, o_box, g_cons, p_some, a_tmp, a_bool, wp_seq, wp_reg, q_thenN, argE, Nat.reduceEqDiff, Nat.succ_ne_zero, AV.cells?, Nat.zero_add, if_false, if_true]
  simp only [c71r1, binBools, BEq.rfl, k_call, k_some, k_tt, o_grdM, o_mov, o_load, o_bin, o_faddr, o_call, g_cons, p_some, a_tmp, a_fun, fn_call, evQ, binA, List.map_cons, List.map_nil, Nat.reduceEqDiff, Nat.reduceAdd, Nat.succ_ne_zero, ld_ref, get_last, get_mid, List.length_cons, List.length_nil, Nat.zero_add, partA, List.getElem?_cons_zero, List.getElem?_cons_succ, List.drop_zero, List.drop_succ_cons, List.take_succ_cons, List.take_zero, Nat.reduceLeDiff, Bool.false_eq_true, if_false, if_true]
  refine (h1 _).mono ?_
  rintro x s ⟨rfl, rfl⟩
  simp only [k_call, k_some, k_tt, o_grdM, o_mov, o_pick, o_load, o_faddr, o_call, g_cons, p_some, a_tmp, a_fun, a_bool, fn_call, evQ, List.map_cons, List.map_nil, Nat.reduceEqDiff, Nat.reduceAdd, Nat.succ_ne_zero, ld_ref, get_last, get_mid, List.length_cons, List.length_nil, Nat.zero_add, partA, List.getElem?_cons_zero, List.getElem?_cons_succ, List.drop_zero, List.drop_succ_cons, List.take_succ_cons, List.take_zero, Nat.le_refl, if_false, if_true]
  refine (h2 _).mono ?_
  rintro x s ⟨rfl, rfl⟩
  simp only [k_call, k_seq, k_reg, k_some, o_nil, o_mov, o_pick, g_cons, p_some, a_tmp, a_bool, wp_ret, q_thenN, Nat.reduceEqDiff, Nat.succ_ne_zero, if_false, if_true]
  refine fin_tmp (.inr rfl) ?_
  simp only [g_cons, Nat.reduceEqDiff, Nat.succ_ne_zero, if_false, if_true]
  exact fin_pre ⟨_, List.append_assoc ..⟩ ⟨frz_sc, rfl⟩

set_option maxHeartbeats 1000000 in
theorem call70 {L : List Li} {st : List AO} : ACall Tryz.prog 70 [.sl false (L.map liA), .sl false ((L.map Li.canon).map liA), .fn 71 0 []] st (fun x s => x = .sc (.bool true) ∧ s = st) := by
  refine acall_t t70 (by simp) ?_
  simp only [c70, c70r0, List.length_map, bne_self_eq_false, k_call, k_seq, k_reg, k_some, o_nil, o_mov, o_bin, o_len, g_cons, p_some, a_tmp, a_bool, wp_seq, wp_reg, q_thenN, binA, binInts, binI, slen, lenA, argE, Nat.reduceEqDiff, Nat.reduceAdd, Nat.succ_ne_zero, Nat.zero_add, if_false, if_true]
  intro hn _
  have hn' : L.length ≤ 140737488355328 := hn _ rfl
  rw [wp_cond (v := false) (by simp only [g_cons, a_tmp, Nat.reduceEqDiff, Nat.succ_ne_zero, if_false, if_true])]
  refine ⟨(fun h => by cases h), fun _ => ?_⟩
  simp only [c70r1, List.length_map, k_call, k_seq, k_reg, k_some, o_nil, o_mov, o_len, g_cons, p_some, a_tmp, a_i64_0, wp_seq, wp_reg, wp_skip, wp_block, wp_loop, q_thenN, slen, lenA, Nat.reduceEqDiff, Nat.succ_ne_zero, if_false, if_true]
  intro _
  refine loop_rule (fun (k : Nat) E st' => k ≤ L.length ∧ (∃ ext, st' = st ++ ext) ∧ E = [(1, .sl false ((L.map Li.canon).map liA)), (2, .fn 71 0 []), (15, .sl false (L.map liA)), (16, .sc (.int .i64 (L.length : Nat))), (17, .sc (.int .i64 (k : Nat)))]) (fun k => L.length - k)
    0 [(1, .sl false ((L.map Li.canon).map liA)), (2, .fn 71 0 []), (15, .sl false (L.map liA)), (16, .sc (.int .i64 (L.length : Nat))), (17, .sc (.int .i64 0))] (by simp only [SubE, g_cons, Nat.reduceEqDiff, Nat.succ_ne_zero, and_true, if_false, if_true]) ⟨Nat.zero_le _, ⟨[], by simp⟩, rfl⟩ ?_
  rintro k E st' ⟨hk, ⟨ext, rfl⟩, rfl⟩
  simp only [c70l5, k_call, k_seq, k_reg, k_some, o_nil, o_bin, g_cons, p_some, a_tmp, wp_seq, wp_reg, q_thenN, binA, binInts, binI, Nat.reduceEqDiff, if_false, if_true]
  rw [wp_cond (v := decide (k < L.length)) (by simp only [dec_lt, g_cons, a_tmp, Nat.reduceEqDiff, if_false, if_true])]
  refine ⟨fun hd => ?_, fun hd => ?_⟩
  · have hk1 : k < L.length := by simpa using hd
    obtain ⟨l, ht, hmem⟩ := get_lt hk1
    have hc := fun st => call71 (l := l) (st := st)
    have e1 : (L.map liA)[k]? = some (liA l) := get_map ht
    have e2 : ((L.map Li.canon).map liA)[k]? = some (liA l.canon) := get_map (get_map ht)
    obtain ⟨neg, ⟨F, A⟩, ⟨G, B⟩⟩ := l
    rw [liA_canon] at hc e2
    simp only [liA, Tm.F, Tm.L] at hc e1
    simp only [c70r2, List.length_map, hk1, ld_full (sz := 5) e1 rfl, k_call, k_seq, k_some, o_mov, o_load, o_iaddr, o_alloc, g_cons, p_some, a_tmp, wp_seq, wp_reg, wp_skip, wp_block, q_thenN, evQ, slen, natA_nat, Nat.reduceEqDiff, if_false, if_true]
    rw [o_store (by simp only [g_cons, a_tmp, Nat.reduceEqDiff, if_false, if_true]; rfl)]
    simp only [c70r3, List.length_map, hk1, ld_full (sz := 5) e2 rfl, k_call, k_seq, k_reg, k_some, o_nil, o_mov, o_load, o_iaddr, o_alloc, g_cons, p_some, p_none, a_tmp, wp_seq, wp_reg, q_thenN, evQ, slen, natA_nat, Nat.reduceEqDiff, Nat.reduceAdd, get_last, set_last, AV.cells?, List.length_cons, List.length_nil, Nat.zero_add, List.drop_succ_cons, List.take_zero, putAt, List.nil_append, List.drop_nil, List.append_nil, Nat.le_refl, true_and, and_true, if_false, if_true]
    rw [o_store (by simp only [g_cons, a_tmp, Nat.reduceEqDiff, if_false, if_true]; rfl)]
    simp only [c70r4, List.take_zero, List.append_nil, List.nil_append, k_call, k_seq, k_reg, k_some, o_nil, o_mov, o_load, o_call, g_cons, p_some, p_none, a_tmp, wp_seq, wp_reg, q_thenN, fn_call, List.map_cons, List.map_nil, Nat.reduceEqDiff, Nat.reduceAdd, ld_ref, get_last, get_mid, set_last, AV.cells?, List.length_cons, List.length_nil, Nat.zero_add, partA, List.getElem?_cons_zero, List.drop_zero, List.drop_succ_cons, List.take_succ_cons, List.take_zero, putAt, List.nil_append, List.drop_nil, List.append_nil, Nat.le_refl, true_and, and_true, if_false, if_true]
    refine (hc _).mono ?_
    rintro x s ⟨rfl, rfl⟩
    simp only [k_call, k_seq, k_reg, k_some, o_nil, Bool.not_true, o_un, g_cons, p_some, a_tmp, q_thenN, evQ, Nat.reduceEqDiff, if_false, if_true]
    rw [wp_cond (v := false) (by simp only [g_cons, a_tmp, Nat.reduceEqDiff, if_false, if_true])]
    refine ⟨(fun h => by cases h), fun _ => ?_⟩
    simp only [wrap_succ (show k < 9223372036854775807 by omega), k_call, k_seq, k_reg, k_some, o_nil, o_mov, o_bin, g_cons, p_some, a_tmp, a_i64_1, wp_reg, wp_skip, q_thenN, q_blkN, q_nxtN, binA, binInts, binI, Nat.reduceEqDiff, true_and, if_false, if_true]
    refine ⟨_, (?_ : SubE [(1, _), (2, _), (15, _), (16, _), (17, _)] _), k + 1, by omega, by omega, ⟨_, by rw [List.append_assoc, List.append_assoc]⟩, rfl⟩
    simp only [SubE, g_cons, Nat.reduceEqDiff, and_true, if_false, if_true]
  · simp only [k_seq, k_reg, o_nil, o_mov, p_some, a_bool, wp_seq, wp_reg, wp_ret, wp_exit, q_thenN, q_thenE, q_blkE, q_nxtE, if_true]
    refine fin_tmp (.inr rfl) ?_
    simp only [g_cons, Nat.reduceEqDiff, if_false, if_true]
    exact fin_pre ⟨_, rfl⟩ ⟨frz_sc, rfl⟩

theorem call36 {L : List Li} {st : List AO} : ACall Tryz.prog 36 [.sl false (L.map liA), .sl false ((L.map Li.canon).map liA)] st (fun x s => x = .sc (.bool true) ∧ s = st) := by
  refine acall_t t36 (by simp) ?_
  simp only [c36, c36r0, k_seq, k_reg, o_nil, o_mov, o_call, g_cons, p_some, a_tmp, a_fun, a_bool, wp_seq, wp_reg, q_thenN, fn_call, argE, List.map_cons, List.map_nil, Nat.reduceEqDiff, Nat.succ_ne_zero, Nat.zero_add, if_false, if_true]
  refine call70.mono ?_
  rintro x s ⟨rfl, rfl⟩
  simp only [k_call, k_seq, k_reg, o_nil, o_mov, g_cons, p_some, a_tmp, wp_ret, q_thenN, Nat.reduceEqDiff, Nat.succ_ne_zero, if_false, if_true]
  refine fin_tmp (.inr rfl) ?_
  simp only [g_cons, Nat.reduceEqDiff, Nat.succ_ne_zero, if_false, if_true]
  exact fin_keep0 ⟨frz_sc, rfl⟩

set_option maxHeartbeats 1000000 in
theorem call35 {n : Nd} {st : List AO} : ACall Tryz.prog 35 [ndA n, ndA n.canon] st (fun x s => x = .sc (.bool true) ∧ s = st) := by
  obtain ⟨i, r, p, q, c⟩ := n
  simp only [ndA, Nd.canon]
  refine acall_t t35 (by simp) ?_
  simp only [c35, c35r0, k_call, k_seq, k_reg, k_box, o_nil, o_mov, o_box, g_cons, p_some, a_tmp, a_bool, wp_seq, wp_reg, q_thenN, argE, Nat.reduceEqDiff, Nat.succ_ne_zero, AV.cells?, Nat.zero_add, if_false, if_true]
  simp only [c35r1, BEq.rfl, k_call, k_some, k_tt, o_grdM, o_mov, o_pick, o_load, o_bin, o_faddr, o_call, g_cons, p_some, a_tmp, a_fun, a_bool, fn_call, evQ, binA, binInts, binI, List.map_cons, List.map_nil, Nat.reduceEqDiff, Nat.reduceAdd, Nat.succ_ne_zero, ld_ref, get_last, get_mid, List.length_cons, List.length_nil, Nat.zero_add, partA, List.getElem?_cons_zero, List.getElem?_cons_succ, List.drop_zero, List.drop_succ_cons, List.take_succ_cons, List.take_zero, Nat.reduceLeDiff, Nat.le_refl, Bool.false_eq_true, if_false, if_true]
  refine call36.mono ?_
  rintro x s ⟨rfl, rfl⟩
  simp only [k_call, k_seq, k_reg, k_some, o_nil, o_mov, o_pick, g_cons, p_some, a_tmp, a_bool, wp_ret, q_thenN, Nat.reduceEqDiff, Nat.succ_ne_zero, if_false, if_true]
  refine fin_tmp (.inr rfl) ?_
  simp only [g_cons, Nat.reduceEqDiff, Nat.succ_ne_zero, if_false, if_true]
  exact fin_pre ⟨_, List.append_assoc ..⟩ ⟨frz_sc, rfl⟩
end Go.AW

/-
  What is the same: states; bytes.
-/
namespace Go.AW
open Go Go.RowKit Go.Proofs
set_option linter.unusedVariables false
set_option linter.unusedSimpArgs false
set_option maxRecDepth 100000

set_option maxHeartbeats 1000000 in
theorem call34 {L : List Nd} {st : List AO} : ACall Tryz.prog 34 [.sl false (L.map ndA), .sl false ((L.map Nd.canon).map ndA), .fn 35 0 []] st (fun x s => x = .sc (.bool true) ∧ s = st) := by
  refine acall_t t34 (by simp) ?_
  simp only [c34, c34r0, List.length_map, bne_self_eq_false, k_call, k_seq, k_reg, k_some, o_nil, o_mov, o_bin, o_len, g_cons, p_some, a_tmp, a_bool, wp_seq, wp_reg, q_thenN, binA, binInts, binI, slen, lenA, argE, Nat.reduceEqDiff, Nat.reduceAdd, Nat.succ_ne_zero, Nat.zero_add, if_false, if_true]
  intro hn _
  have hn' : L.length ≤ 140737488355328 := hn _ rfl
  rw [wp_cond (v := false) (by simp only [g_cons, a_tmp, Nat.reduceEqDiff, Nat.succ_ne_zero, if_false, if_true])]
  refine ⟨(fun h => by cases h), fun _ => ?_⟩
  simp only [c34r1, List.length_map, k_call, k_seq, k_reg, k_some, o_nil, o_mov, o_len, g_cons, p_some, a_tmp, a_i64_0, wp_seq, wp_reg, wp_skip, wp_block, wp_loop, q_thenN, slen, lenA, Nat.reduceEqDiff, Nat.succ_ne_zero, if_false, if_true]
  intro _
  refine loop_rule (fun (k : Nat) E st' => k ≤ L.length ∧ (∃ ext, st' = st ++ ext) ∧ E = [(1, .sl false ((L.map Nd.canon).map ndA)), (2, .fn 35 0 []), (15, .sl false (L.map ndA)), (16, .sc (.int .i64 (L.length : Nat))), (17, .sc (.int .i64 (k : Nat)))]) (fun k => L.length - k)
    0 [(1, .sl false ((L.map Nd.canon).map ndA)), (2, .fn 35 0 []), (15, .sl false (L.map ndA)), (16, .sc (.int .i64 (L.length : Nat))), (17, .sc (.int .i64 0))] (by simp only [SubE, g_cons, Nat.reduceEqDiff, Nat.succ_ne_zero, and_true, if_false, if_true]) ⟨Nat.zero_le _, ⟨[], by simp⟩, rfl⟩ ?_
  rintro k E st' ⟨hk, ⟨ext, rfl⟩, rfl⟩
  simp only [c34l5, k_call, k_seq, k_reg, k_some, o_nil, o_bin, g_cons, p_some, a_tmp, wp_seq, wp_reg, q_thenN, binA, binInts, binI, Nat.reduceEqDiff, if_false, if_true]
  rw [wp_cond (v := decide (k < L.length)) (by simp only [dec_lt, g_cons, a_tmp, Nat.reduceEqDiff, if_false, if_true])]
  refine ⟨fun hd => ?_, fun hd => ?_⟩
  · have hk1 : k < L.length := by simpa using hd
    obtain ⟨l, ht, hmem⟩ := get_lt hk1
    have hc := fun st => call35 (n := l) (st := st)
    have e1 : (L.map ndA)[k]? = some (ndA l) := get_map ht
    have e2 : ((L.map Nd.canon).map ndA)[k]? = some (ndA l.canon) := get_map (get_map ht)
    obtain ⟨i, r, p, q, c⟩ := l
    simp only [ndA, Nd.canon] at hc e1 e2
    simp only [c34r2, List.length_map, hk1, ld_full (sz := 5) e1 rfl, k_call, k_seq, k_some, o_mov, o_load, o_iaddr, o_alloc, g_cons, p_some, a_tmp, wp_seq, wp_reg, wp_skip, wp_block, q_thenN, evQ, slen, natA_nat, Nat.reduceEqDiff, if_false, if_true]
    rw [o_store (by simp only [g_cons, a_tmp, Nat.reduceEqDiff, if_false, if_true]; rfl)]
    have e2' : ((L.map Nd.canon).map ndA)[k]? = some (.agg [.sc (.int .i64 i), .sc (.int .i64 r), .sc (.int .i64 p), .sc (.int .i64 q), .sl false ((c.map Li.canon).map liA)]) := get_map (get_map ht)
    simp only [c34r3, List.length_map, hk1, ld_full (sz := 5) e2' rfl, k_call, k_seq, k_reg, k_some, o_nil, o_mov, o_load, o_iaddr, o_alloc, g_cons, p_some, p_none, a_tmp, wp_seq, wp_reg, q_thenN, evQ, slen, natA_nat, Nat.reduceEqDiff, Nat.reduceAdd, get_last, set_last, AV.cells?, List.length_cons, List.length_nil, Nat.zero_add, List.drop_succ_cons, List.take_zero, putAt, List.nil_append, List.drop_nil, List.append_nil, Nat.le_refl, true_and, and_true, if_false, if_true]
    rw [o_store (by simp only [g_cons, a_tmp, Nat.reduceEqDiff, if_false, if_true]; rfl)]
    simp only [c34r4, List.take_zero, List.append_nil, List.nil_append, k_call, k_seq, k_reg, k_some, o_nil, o_mov, o_load, o_call, g_cons, p_some, p_none, a_tmp, wp_seq, wp_reg, q_thenN, fn_call, List.map_cons, List.map_nil, Nat.reduceEqDiff, Nat.reduceAdd, ld_ref, get_last, get_mid, set_last, AV.cells?, List.length_cons, List.length_nil, Nat.zero_add, partA, List.getElem?_cons_zero, List.drop_zero, List.drop_succ_cons, List.take_succ_cons, List.take_zero, putAt, List.nil_append, List.drop_nil, List.append_nil, Nat.le_refl, true_and, and_true, if_false, if_true]
    refine (hc _).mono ?_
    rintro x s ⟨rfl, rfl⟩
    simp only [k_call, k_seq, k_reg, k_some, o_nil, Bool.not_true, o_un, g_cons, p_some, a_tmp, q_thenN, evQ, Nat.reduceEqDiff, if_false, if_true]
    rw [wp_cond (v := false) (by simp only [g_cons, a_tmp, Nat.reduceEqDiff, if_false, if_true])]
    refine ⟨(fun h => by cases h), fun _ => ?_⟩
    simp only [wrap_succ (show k < 9223372036854775807 by omega), k_call, k_seq, k_reg, k_some, o_nil, o_mov, o_bin, g_cons, p_some, a_tmp, a_i64_1, wp_reg, wp_skip, q_thenN, q_blkN, q_nxtN, binA, binInts, binI, Nat.reduceEqDiff, true_and, if_false, if_true]
    refine ⟨_, (?_ : SubE [(1, _), (2, _), (15, _), (16, _), (17, _)] _), k + 1, by omega, by omega, ⟨_, by rw [List.append_assoc, List.append_assoc]⟩, rfl⟩
    simp only [SubE, g_cons, Nat.reduceEqDiff, and_true, if_false, if_true]
  · simp only [k_seq, k_reg, o_nil, o_mov, p_some, a_bool, wp_seq, wp_reg, wp_ret, wp_exit, q_thenN, q_thenE, q_blkE, q_nxtE, if_true]
    refine fin_tmp (.inr rfl) ?_
    simp only [g_cons, Nat.reduceEqDiff, if_false, if_true]
    exact fin_pre ⟨_, rfl⟩ ⟨frz_sc, rfl⟩

theorem eq0 : checkM tab 100 (33, [.sl false [], .sl false []], .sc (.bool true)) = true := by kernel_rfl
theorem call33 {b c : Bool} {st : List AO} : ACall Tryz.prog 33 [.sl b [], .sl c []] st (fun x s => x = .sc (.bool true) ∧ s = st) := by
  obtain ⟨h1, h2⟩ := checkM_ok tabOk eq0 _ (List.mem_singleton.2 rfl)
  exact ACall.nrm (ACall.frame h2 h1)

def stA (b c : Bool) (l : List Nd) : AV := .agg [.sc (.int .i64 0), .sc (.int .i64 0), .sc (.int .i64 0), .sc (.int .i64 0), .sc (.bool false), .sl false (l.map ndA), .sl b [], .sl c []]

set_option maxHeartbeats 2000000 in
theorem call16 {L : List Nd} {a b c d : Bool} {st : List AO} : ACall Tryz.prog 16 [stA a b L, stA c d (L.map Nd.canon)] st (fun x s => x = .sc (.bool true) ∧ s = st) := by
  refine acall_t t16 (by simp) ?_
  simp only [c16, c16r0, stA, k_call, k_seq, k_reg, k_box, o_nil, o_mov, o_box, g_cons, p_some, a_tmp, a_bool, wp_seq, wp_reg, q_thenN, argE, Nat.reduceEqDiff, Nat.succ_ne_zero, AV.cells?, Nat.zero_add, if_false, if_true]
  simp only [c16r1, binBools, BEq.rfl, k_call, k_some, k_tt, o_grdM, o_mov, o_pick, o_load, o_bin, o_faddr, o_call, g_cons, p_some, a_tmp, a_fun, a_bool, fn_call, evQ, binA, binInts, binI, List.map_cons, List.map_nil, Nat.reduceEqDiff, Nat.reduceAdd, Nat.succ_ne_zero, ld_ref, get_last, get_mid, List.length_cons, List.length_nil, Nat.zero_add, partA, List.getElem?_cons_zero, List.getElem?_cons_succ, List.drop_zero, List.drop_succ_cons, List.take_succ_cons, List.take_zero, Nat.reduceLeDiff, Bool.false_eq_true, if_false, if_true]
  refine call33.mono ?_
  rintro x s ⟨rfl, rfl⟩
  simp only [k_call, k_some, k_tt, o_grdM, o_mov, o_pick, o_load, o_faddr, o_call, g_cons, p_some, a_tmp, a_fun, a_bool, fn_call, evQ, List.map_cons, List.map_nil, Nat.reduceEqDiff, Nat.reduceAdd, Nat.succ_ne_zero, ld_ref, get_last, get_mid, List.length_cons, List.length_nil, Nat.zero_add, partA, List.getElem?_cons_zero, List.getElem?_cons_succ, List.drop_zero, List.drop_succ_cons, List.take_succ_cons, List.take_zero, Nat.le_refl, Bool.false_eq_true, if_false, if_true]
  refine call33.mono ?_
  rintro x s ⟨rfl, rfl⟩
  simp only [k_call, k_some, k_tt, o_grdM, o_mov, o_pick, o_load, o_faddr, o_call, g_cons, p_some, a_tmp, a_fun, a_bool, fn_call, evQ, List.map_cons, List.map_nil, Nat.reduceEqDiff, Nat.reduceAdd, Nat.succ_ne_zero, ld_ref, get_last, get_mid, List.length_cons, List.length_nil, Nat.zero_add, partA, List.getElem?_cons_zero, List.getElem?_cons_succ, List.drop_zero, List.drop_succ_cons, List.take_succ_cons, List.take_zero, Nat.reduceLeDiff, Bool.false_eq_true, if_false, if_true]
  refine call34.mono ?_
  rintro x s ⟨rfl, rfl⟩
  simp only [k_call, k_seq, k_reg, k_some, o_nil, o_mov, o_pick, g_cons, p_some, a_tmp, a_bool, wp_ret, q_thenN, Nat.reduceEqDiff, Nat.succ_ne_zero, if_false, if_true]
  refine fin_tmp (.inr rfl) ?_
  simp only [g_cons, Nat.reduceEqDiff, Nat.succ_ne_zero, if_false, if_true]
  exact fin_pre ⟨_, List.append_assoc ..⟩ ⟨frz_sc, rfl⟩

set_option maxHeartbeats 1000000 in
theorem call17 {bs : List UInt8} {st : List AO} : ACall Tryz.prog 17 [bA bs, bA bs] st (fun x s => x = .sc (.bool true) ∧ s = st) := by
  refine acall_t t17 (by simp) ?_
  simp only [c17, c17r0, bA, List.length_map, bne_self_eq_false, k_call, k_seq, k_reg, k_some, o_nil, o_mov, o_bin, o_len, g_cons, p_some, a_tmp, a_bool, wp_seq, wp_reg, q_thenN, binA, binInts, binI, slen, lenA, argE, Nat.reduceEqDiff, Nat.succ_ne_zero, Nat.zero_add, if_false, if_true]
  intro hn _
  have hn' : bs.length ≤ 140737488355328 := hn _ rfl
  rw [wp_cond (v := false) (by simp only [g_cons, a_tmp, Nat.reduceEqDiff, Nat.succ_ne_zero, if_false, if_true])]
  refine ⟨(fun h => by cases h), fun _ => ?_⟩
  simp only [k_seq, k_reg, o_nil, o_mov, p_some, a_i64_0, wp_seq, wp_reg, wp_skip, wp_block, wp_loop, q_thenN]
  refine loop_rule (fun (k : Nat) E st' => k ≤ bs.length ∧ st' = st ∧ E = [(0, .sl false (bs.map u8A)), (1, .sl false (bs.map u8A)), (5, .sc (.int .i64 (k : Nat)))]) (fun k => bs.length - k)
    0 [(0, .sl false (bs.map u8A)), (1, .sl false (bs.map u8A)), (5, .sc (.int .i64 0))] (by simp only [SubE, g_cons, Nat.reduceEqDiff, Nat.succ_ne_zero, and_true, if_false, if_true]) ⟨Nat.zero_le _, rfl, rfl⟩ ?_
  rintro k E st' ⟨hk, rfl, rfl⟩
  simp only [c17l4, c17r1, List.length_map, k_call, k_seq, k_reg, k_some, o_nil, o_mov, o_bin, o_len, g_cons, p_some, a_tmp, wp_seq, wp_reg, q_thenN, binA, binInts, binI, slen, lenA, Nat.reduceEqDiff, Nat.succ_ne_zero, if_false, if_true]
  intro _
  rw [wp_cond (v := decide (k < bs.length)) (by simp only [dec_lt, g_cons, a_tmp, Nat.reduceEqDiff, Nat.succ_ne_zero, if_false, if_true])]
  refine ⟨fun hd => ?_, fun hd => ?_⟩
  · have hk1 : k < bs.length := by simpa using hd
    obtain ⟨c, ht, hmem⟩ := get_lt hk1
    have ht' : (bs.map u8A)[k]? = some (.sc (.int .u8 c.toNat)) := get_map ht
    simp only [c17d2, List.length_map, hk1, ld_one ht', bne_self_eq_false, k_drw, wp_draw, d_nil, d_mov, d_bin, d_iaddr, d_load, k_seq, k_reg, k_some, g_cons, p_some, a_tmp, wp_seq, wp_skip, wp_block, q_thenN, evQ, binA, binInts, binI, slen, natA_nat, Nat.reduceEqDiff, Nat.succ_ne_zero, if_false, if_true]
    rw [wp_cond (v := false) (by simp only [g_cons, a_tmp, Nat.reduceEqDiff, Nat.succ_ne_zero, if_false, if_true])]
    refine ⟨(fun h => by cases h), fun _ => ?_⟩
    simp only [c17r3, wrap_succ (show k < 9223372036854775807 by omega), k_call, k_seq, k_reg, k_some, o_nil, o_mov, o_bin, g_cons, p_some, a_tmp, a_i64_1, wp_reg, wp_skip, q_thenN, q_blkN, q_nxtN, binA, binInts, binI, Nat.reduceEqDiff, Nat.succ_ne_zero, true_and, if_false, if_true]
    refine ⟨_, (?_ : SubE [(0, _), (1, _), (5, _)] _), k + 1, by omega, by omega, rfl⟩
    simp only [SubE, g_cons, Nat.reduceEqDiff, Nat.succ_ne_zero, and_true, if_false, if_true]
  · simp only [k_seq, k_reg, o_nil, o_mov, p_some, a_bool, wp_seq, wp_reg, wp_ret, wp_exit, q_thenN, q_thenE, q_blkE, q_nxtE, if_true]
    refine fin_tmp (.inr rfl) ?_
    simp only [g_cons, Nat.reduceEqDiff, Nat.succ_ne_zero, if_false, if_true]
    exact fin_keep0 ⟨frz_sc, rfl⟩
end Go.AW
