/-
  The walks through the codec, part one.
-/
import Derived.Test.YtkpnemmniepchaaGreatX1
/-
  Bytes of numbers.
-/
namespace Go.AW
open Go Go.RowKit Go.Proofs
set_option linter.unusedVariables false
set_option linter.unusedSimpArgs false
set_option maxRecDepth 100000

def u8A (b : UInt8) : AV := .sc (.int .u8 b.toNat)
def bA (bs : List UInt8) : AV := .sl false (bs.map u8A)
theorem u8_cells {bs : List UInt8} : ∀ x ∈ bs.map u8A, x.cells.length = 1 := by
  intro x hx; obtain ⟨b, _, rfl⟩ := List.mem_map.1 hx; rfl
theorem u8_pure {bs : List UInt8} : ∀ x ∈ bs.map u8A, x.pure1 = true ∧ x.cells.length = 1 := by
  intro x hx; obtain ⟨b, _, rfl⟩ := List.mem_map.1 hx; exact ⟨rfl, rfl⟩

theorem call113 {st : List AO} {xs : List AV} : ACall Tryz.prog 113 [.sl false xs] st (fun x s => x = .sl true xs ∧ s = st ∧ xs.length ≤ 140737488355328) := by
  refine acall_t t113 (by simp) ?_
  simp only [c113, c113r0, k_call, k_seq, k_reg, k_some, o_nil, o_mov, o_slc, o_len, g_cons, p_some, a_tmp, a_nil, wp_seq, wp_reg, q_thenN, evQ, slen, lenA, argE, Nat.reduceEqDiff, Option.map_some, Option.map_none, Option.isSome_none, Nat.succ_ne_zero, if_false, if_true]
  intro h1 _
  simp only [Bool.false_and, slcA_clip, k_call, k_seq, k_reg, k_some, o_nil, o_mov, g_cons, p_some, a_tmp, wp_ret, q_thenN, Nat.reduceEqDiff, Nat.succ_ne_zero, Bool.false_eq_true, if_false, if_true]
  refine fin_tmp (.inr rfl) ?_
  simp only [g_cons, Nat.reduceEqDiff, Nat.succ_ne_zero, if_false, if_true]
  exact fin_keep0 ⟨frz_sl, rfl, h1 _ rfl⟩

/-- A number's bytes. -/
def putU (n : Nat) : List UInt8 := if n < 128 then [UInt8.ofNat n] else UInt8.ofNat (n % 128 + 128) :: putU (n / 128)

theorem or128 {n : Nat} : (n % 256 ||| 128) % 256 = n % 128 + 128 := by
  have h1 : n % 256 ||| 128 < 2 ^ 8 := Nat.or_lt_two_pow (by omega) (by omega)
  rw [Nat.mod_eq_of_lt (by omega)]
  have h2 : n % 256 = n % 128 ∨ n % 256 = n % 128 + 128 := by omega
  have h3 : n % 128 ||| 128 = n % 128 + 128 := by
    have := Nat.two_pow_add_eq_or_of_lt (i := 7) (b := n % 128) (by omega) 1
    rw [Nat.or_comm]
    simp at this
    omega
  rcases h2 with h | h
  · rw [h, h3]
  · rw [h, ← h3, Nat.or_assoc]; simp

theorem putU_len : ∀ {n k : Nat}, n < 128 ^ (k + 1) → (putU n).length ≤ k + 1
  | n, 0, h => by rw [putU, if_pos (by omega)]; simp
  | n, k + 1, h => by
    rw [putU]
    split
    · simp
    · have := putU_len (n := n / 128) (k := k) (by rw [Nat.pow_succ] at h; omega)
      simp only [List.length_cons]; omega
theorem putU_len10 {n : Nat} (h : n < 18446744073709551616) : (putU n).length ≤ 10 := by
  have e : (128 : Nat) ^ (9 + 1) = 1180591620717411303424 := by decide
  exact putU_len (k := 9) (by omega)
theorem u8A_nat {n : Nat} (h : n < 256) : u8A (UInt8.ofNat n) = .sc (.int .u8 n) := by
  simp only [u8A, UInt8.toNat_ofNat']
  rw [Nat.mod_eq_of_lt h]
theorem or_u8 {n : Nat} : IntKind.wrap .u8 ((BitVec.ofInt IntKind.u8.bits (IntKind.u8.wrap (n : Int)) ||| BitVec.ofInt IntKind.u8.bits 128).toNat : Int) = ((n % 128 + 128 : Nat) : Int) := by
  have e : (BitVec.ofInt 8 (IntKind.u8.wrap (n : Int))) = BitVec.ofNat 8 (n % 256) := by
    rw [wrap_u8m, show ((n : Int) % 256) = ((n % 256 : Nat) : Int) by omega, BitVec.ofInt_natCast]
  have e2 : (BitVec.ofInt 8 (IntKind.u8.wrap (n : Int)) ||| BitVec.ofInt 8 128).toNat % 256 = n % 128 + 128 := by
    rw [e, show BitVec.ofInt 8 128 = BitVec.ofNat 8 128 from rfl, BitVec.toNat_or, BitVec.toNat_ofNat, BitVec.toNat_ofNat]
    have := or128 (n := n)
    have e3 : n % 256 % 2 ^ 8 = n % 256 := by omega
    have e4 : 128 % 2 ^ 8 = 128 := by decide
    rw [e3, e4]
    exact this
  rw [wrap_u8m]
  show (((BitVec.ofInt 8 (IntKind.u8.wrap (n : Int)) ||| BitVec.ofInt 8 128).toNat : Nat) : Int) % 256 = _
  omega

theorem call63 {st : List AO} {bs : List UInt8} {n : Nat} (hn : n < 18446744073709551616) (hl : bs.length ≤ 70368744177664) : ACall Tryz.prog 63 [bA bs, .sc (.int .u64 n)] st (fun x s => x = bA (bs ++ putU n) ∧ s = st) := by
  refine acall_t t63 (by simp) ?_
  simp only [c63, c63r0, k_seq, k_reg, o_nil, o_mov, o_call, g_cons, p_some, a_tmp, a_fun, a_nil, wp_seq, wp_reg, q_thenN, fn_call, argE, List.map_cons, List.map_nil, Nat.reduceEqDiff, Nat.succ_ne_zero, Nat.zero_add, if_false, if_true]
  refine call113.mono ?_
  rintro x s ⟨rfl, rfl, _⟩
  simp only [k_call, k_seq, k_reg, o_nil, o_mov, g_cons, p_some, a_tmp, wp_seq, wp_block, wp_loop, q_thenN, Nat.reduceEqDiff, Nat.succ_ne_zero, if_false, if_true]
  refine loop_rule (fun (a : Nat × List UInt8) E st' => a.1 < 18446744073709551616 ∧ a.2 ++ putU a.1 = putU n ∧ ∃ v ext, E = [(0, v), (1, .sc (.int .u64 a.1))] ∧ st' = s ++ ext ∧ IsBuf s.length 5 1 st' v ((bs ++ a.2).map u8A)) (fun a => a.1)
    (n, []) [(0, .sl true (bs.map u8A)), (1, .sc (.int .u64 n))] ⟨by simp only [g_cons, Nat.reduceEqDiff, if_false, if_true], by simp only [g_cons, Nat.reduceEqDiff, Nat.succ_ne_zero, if_false, if_true], trivial⟩ ⟨hn, rfl, _, [], rfl, by simp, .inl (by simp)⟩ ?_
  rintro ⟨k, ys⟩ E st' ⟨hk, hy, v, ext, rfl, rfl, hv⟩
  simp only at hk hy hv ⊢
  have hlen : ys.length ≤ 10 := by
    have := putU_len10 hn
    rw [← hy] at this
    simp at this; omega
  simp only [c63l3, k_call, k_seq, k_reg, k_some, o_nil, o_mov, o_bin, g_cons, p_some, a_tmp, a_u64_128, wp_seq, wp_reg, q_thenN, binA, binInts, binI, Nat.reduceEqDiff, Nat.succ_ne_zero, if_false, if_true]
  rw [wp_cond (v := decide ((k : Int) ≥ 128)) (by simp only [g_cons, a_tmp, Nat.reduceEqDiff, Nat.succ_ne_zero, if_false, if_true])]
  by_cases h : k < 128
  · have hd : decide ((k : Int) ≥ 128) = false := by simp; omega
    simp only [hd, q_nxtE, k_seq, wp_seq, wp_reg, wp_skip, wp_exit, wp_block, q_thenN, q_thenE, q_blkE, q_nxtE, Bool.false_eq_true, if_true]
    refine ⟨(fun h => by cases h), fun _ => ?_⟩
    simp only [c63r4, k_call, k_some, o_mov, o_cvi, g_cons, p_some, a_tmp, evQ, Nat.reduceEqDiff, Nat.succ_ne_zero, if_false, if_true]
    rw [o_mksl (by intro y hy; simp only [List.mem_singleton] at hy; subst hy; simp only [g_cons, a_tmp, Nat.reduceEqDiff, Nat.succ_ne_zero, if_false, if_true]; rfl)]
    simp only [o_app, g_cons, p_some, a_tmp, List.map_cons, List.map_nil, Nat.reduceEqDiff, Nat.succ_ne_zero, if_false, if_true]
    have hw : IntKind.wrap .u8 (k : Int) = ((k : Nat) : Int) := wrap_u8 (by omega) (by omega)
    rw [hw]
    refine ⟨by intro x hx; simp only [List.mem_singleton] at hx; subst hx; exact ⟨rfl, rfl⟩, ?_⟩
    refine app_buf (by simpa only [k_call, k_seq, k_reg, k_some, k_box, k_tt, k_ff, k_tf, k_ft, k_un, o_nil, o_grdM, Bool.true_eq_false, o_mov, o_pick, o_build, o_load, o_nilck, o_bin, o_un, o_cvi, o_mkfn, o_faddr, o_slc, o_ext, o_iaddr, o_len, o_alloc, o_box, o_call, o_app, g_cons, p_some, p_none, a_tmp, a_fun, a_bool, a_nil, a_i64_0, a_i64_1, a_i64_2, a_i64_3, a_i64_5, a_i64_7, a_i64_8, a_i64_9, a_i64_10, a_i64_20, a_i64_60, a_i64_256, a_i64_400, a_i64_1000, a_i64_m1000, a_i64_m1, a_i64_2147483648, a_i64_m2147483648, a_i64_2147483647, a_u8_0, a_u8_1, a_u8_7, a_u8_10, a_u8_128, a_u64_0, a_u64_1, a_u64_7, a_u64_63, a_u64_128, a_u64_1048576, a_u64_4096, wp_seq, wp_reg, wp_skip, wp_ret, wp_exit, wp_block, wp_loop, q_thenN, q_thenR, q_thenE, q_blkN, q_blkR, q_blkE, q_nxtN, q_nxtR, q_nxtE, fn_call, evQ, binA, binInts, binI, slen, lenA, natA_nat, natA_0, argE, List.map_cons, List.map_nil, Nat.reduceEqDiff, Nat.reduceAdd, reduceIte, Option.map_some, Option.map_none, Option.isSome_some, Option.isSome_none, Nat.succ_ne_zero, ld_ref, get_last, get_last2, get_mid, get_mid1, get_mid2, set_last, set_last2, set_mid, AV.cells?, List.length_cons, List.length_nil, Nat.zero_add, partA, List.getElem?_cons_zero, List.getElem?_cons_succ, List.drop_zero, List.drop_succ_cons, List.take_succ_cons, List.take_zero, putAt, List.nil_append, List.cons_append, List.drop_nil, List.append_nil, Nat.reduceLeDiff, Nat.le_refl, true_and, and_true, Bool.false_eq_true, if_false, if_true] using hv) (by simp only [g_cons, a_tmp, Nat.reduceEqDiff, Nat.succ_ne_zero, if_false, if_true]; rfl) (by intro x hx; simp only [List.mem_singleton] at hx; subst hx; exact ⟨rfl, rfl⟩) u8_cells (by simp; omega) (by simp; omega) ?_
    intro v' ext' hv'
    simp only [k_call, k_seq, k_reg, o_nil, o_mov, g_cons, p_some, a_tmp, wp_ret, q_thenN, Nat.reduceEqDiff, Nat.succ_ne_zero, if_false, if_true]
    refine fin_tmp (.inr rfl) ?_
    simp only [g_cons, Nat.reduceEqDiff, Nat.succ_ne_zero, if_false, if_true]
    refine fin_buf hv' ⟨?_, rfl⟩
    rw [← hy, putU, if_pos h]
    simp only [bA, List.map_append, ← List.append_assoc, List.map_cons, List.map_nil, u8A_nat (show k < 256 by omega)]
    rfl
  · have hd : decide ((k : Int) ≥ 128) = true := by simp; omega
    have hp : putU k = UInt8.ofNat (k % 128 + 128) :: putU (k / 128) := by rw [putU, if_neg h]
    simp only [hd, k_seq, Bool.true_eq_false, wp_seq, wp_reg, wp_skip, wp_exit, wp_block, q_thenN, q_thenE, q_blkE, q_nxtE, if_true]
    refine ⟨fun _ => ?_, (fun h => by cases h)⟩
    simp only [c63r1, c63r2, k_call, k_some, o_mov, o_bin, o_cvi, g_cons, p_some, a_tmp, a_u8_128, evQ, binA, binInts, binI, Nat.reduceEqDiff, Nat.succ_ne_zero, if_false, if_true]
    rw [o_mksl (by intro y hy; simp only [List.mem_singleton] at hy; subst hy; simp only [g_cons, a_tmp, Nat.reduceEqDiff, Nat.succ_ne_zero, if_false, if_true]; rfl)]
    simp only [o_app, g_cons, p_some, a_tmp, List.map_cons, List.map_nil, Nat.reduceEqDiff, Nat.succ_ne_zero, if_false, if_true]
    rw [or_u8]
    refine ⟨by intro x hx; simp only [List.mem_singleton] at hx; subst hx; exact ⟨rfl, rfl⟩, ?_⟩
    refine app_buf (by simpa only [k_call, k_seq, k_reg, k_some, k_box, k_tt, k_ff, k_tf, k_ft, k_un, o_nil, o_grdM, Bool.true_eq_false, o_mov, o_pick, o_build, o_load, o_nilck, o_bin, o_un, o_cvi, o_mkfn, o_faddr, o_slc, o_ext, o_iaddr, o_len, o_alloc, o_box, o_call, o_app, g_cons, p_some, p_none, a_tmp, a_fun, a_bool, a_nil, a_i64_0, a_i64_1, a_i64_2, a_i64_3, a_i64_5, a_i64_7, a_i64_8, a_i64_9, a_i64_10, a_i64_20, a_i64_60, a_i64_256, a_i64_400, a_i64_1000, a_i64_m1000, a_i64_m1, a_i64_2147483648, a_i64_m2147483648, a_i64_2147483647, a_u8_0, a_u8_1, a_u8_7, a_u8_10, a_u8_128, a_u64_0, a_u64_1, a_u64_7, a_u64_63, a_u64_128, a_u64_1048576, a_u64_4096, wp_seq, wp_reg, wp_skip, wp_ret, wp_exit, wp_block, wp_loop, q_thenN, q_thenR, q_thenE, q_blkN, q_blkR, q_blkE, q_nxtN, q_nxtR, q_nxtE, fn_call, evQ, binA, binInts, binI, slen, lenA, natA_nat, natA_0, argE, List.map_cons, List.map_nil, Nat.reduceEqDiff, Nat.reduceAdd, reduceIte, Option.map_some, Option.map_none, Option.isSome_some, Option.isSome_none, Nat.succ_ne_zero, ld_ref, get_last, get_last2, get_mid, get_mid1, get_mid2, set_last, set_last2, set_mid, AV.cells?, List.length_cons, List.length_nil, Nat.zero_add, partA, List.getElem?_cons_zero, List.getElem?_cons_succ, List.drop_zero, List.drop_succ_cons, List.take_succ_cons, List.take_zero, putAt, List.nil_append, List.cons_append, List.drop_nil, List.append_nil, Nat.reduceLeDiff, Nat.le_refl, true_and, and_true, Bool.false_eq_true, if_false, if_true] using hv) (by simp only [g_cons, a_tmp, Nat.reduceEqDiff, Nat.succ_ne_zero, if_false, if_true]; rfl) (by intro x hx; simp only [List.mem_singleton] at hx; subst hx; exact ⟨rfl, rfl⟩) u8_cells (by simp; omega) (by simp; omega) ?_
    intro v' ext' hv'
    simp only [k_call, k_seq, k_reg, o_nil, o_mov, o_bin, g_cons, p_some, a_tmp, a_u64_7, wp_reg, q_thenN, q_blkN, binA, binInts, Nat.reduceEqDiff, Nat.succ_ne_zero, if_false, if_true]
    have hs : shI .shr .u64 (k : Int) 7 = some (.sc (.int .u64 (k / 128 : Nat))) := by
      have := shr_ok (k := .u64) (a := (k : Int)) (b := 7) (by decide)
      rw [show ((7 : Nat) : Int) = 7 from rfl] at this
      rw [this, show ((2 : Int) ^ 7) = ((128 : Nat) : Int) from rfl, Int.fdiv_eq_ediv_of_nonneg _ (by omega)]
      congr 3
    simp only [hs, k_call, k_reg, k_some, o_nil, o_mov, g_cons, p_some, a_tmp, q_nxtN, Nat.reduceEqDiff, Nat.succ_ne_zero, true_and, if_false, if_true]
    refine ⟨[(0, v'), (1, .sc (.int .u64 (k / 128 : Nat)))], ⟨by simp only [g_cons, Nat.reduceEqDiff, if_false, if_true], by simp only [g_cons, Nat.reduceEqDiff, Nat.succ_ne_zero, if_false, if_true], trivial⟩, (k / 128, ys ++ [UInt8.ofNat (k % 128 + 128)]), ?_, ?_, ?_, v', ext', rfl, rfl, ?_⟩
    · simp only; omega
    · simp only; omega
    · simp only [← hy, hp, List.append_assoc, List.singleton_append]
    · have e : (bs ++ (ys ++ [UInt8.ofNat (k % 128 + 128)])).map u8A = (bs ++ ys).map u8A ++ [.sc (.int .u8 ((k % 128 + 128 : Nat) : Int))] := by
        simp only [List.map_append, List.append_assoc, List.map_cons, List.map_nil, u8A_nat (show k % 128 + 128 < 256 by omega)]
      simp only [e]
      exact hv'
end Go.AW

/-
  Bytes of terms, clauses, nodes.
-/
namespace Go.AW
open Go Go.RowKit Go.Proofs
set_option linter.unusedVariables false
set_option linter.unusedSimpArgs false
set_option maxRecDepth 100000

/-- A whole number, as one from 0 on. -/
def zig (n : Int) : Nat := if 0 ≤ n then (2 * n).toNat else (-2 * n - 1).toNat
def putI (n : Int) : List UInt8 := putU (zig n)

theorem zig_lt {n : Int} (h1 : -9223372036854775808 ≤ n) (h2 : n ≤ 9223372036854775807) : zig n < 18446744073709551616 := by
  unfold zig; split <;> omega

theorem xor_zig {n : Int} (h1 : -9223372036854775808 ≤ n) (h2 : n ≤ 9223372036854775807) :
    IntKind.wrap .u64 ((BitVec.ofInt IntKind.u64.bits (IntKind.wrap .u64 (IntKind.wrap .u64 n * 2 ^ 1)) ^^^ BitVec.ofInt IntKind.u64.bits (IntKind.wrap .u64 (n.fdiv (2 ^ 63)))).toNat : Int) = (zig n : Int) := by
  show IntKind.wrap .u64 (((BitVec.ofInt 64 (IntKind.wrap .u64 (IntKind.wrap .u64 n * 2 ^ 1)) ^^^ BitVec.ofInt 64 (IntKind.wrap .u64 (n.fdiv (2 ^ 63)))).toNat : Nat) : Int) = (zig n : Int)
  have e63 : (2 : Int) ^ 63 = 9223372036854775808 := by decide
  have e64 : (2 : Nat) ^ 64 = 18446744073709551616 := by decide
  rw [Int.fdiv_eq_ediv_of_nonneg _ (by rw [e63]; omega), e63]
  by_cases h : 0 ≤ n
  · have a : IntKind.wrap .u64 (IntKind.wrap .u64 n * 2 ^ 1) = ((2 * n).toNat : Int) := by
      rw [wrap_u64 (n := n) h (by omega), wrap_u64 (by omega) (by omega)]; omega
    have b : IntKind.wrap .u64 (n / 9223372036854775808) = 0 := by
      rw [show n / 9223372036854775808 = 0 by omega]; rfl
    rw [a, b, BitVec.ofInt_natCast, show BitVec.ofInt 64 0 = 0#64 from rfl, BitVec.xor_zero, BitVec.toNat_ofNat, e64, wrap_u64m]
    simp only [zig, h, if_true]
    omega
  · have a : IntKind.wrap .u64 (IntKind.wrap .u64 n * 2 ^ 1) = ((2 * n + 18446744073709551616).toNat : Int) := by
      rw [wrap_u64m, wrap_u64m]; omega
    have b : IntKind.wrap .u64 (n / 9223372036854775808) = ((18446744073709551615 : Nat) : Int) := by
      rw [show n / 9223372036854775808 = -1 by omega]; rfl
    have c : BitVec.ofNat 64 18446744073709551615 = BitVec.allOnes 64 := by decide
    rw [a, b, BitVec.ofInt_natCast, BitVec.ofInt_natCast, c, BitVec.xor_allOnes, BitVec.toNat_not, BitVec.toNat_ofNat, e64, wrap_u64m]
    simp only [zig, h, if_false]
    omega

theorem call66 {st : List AO} {bs : List UInt8} {n : Int} (h1 : -9223372036854775808 ≤ n) (h2 : n ≤ 9223372036854775807) (hl : bs.length ≤ 70368744177664) : ACall Tryz.prog 66 [bA bs, .sc (.int .i64 n)] st (fun x s => x = bA (bs ++ putI n) ∧ s = st) := by
  refine acall_t t66 (by simp) ?_
  simp only [c66, c66r0, k_call, k_seq, k_reg, k_some, o_nil, o_mov, o_bin, o_cvi, g_cons, p_some, a_tmp, a_nil, a_u64_1, wp_seq, wp_reg, q_thenN, evQ, binA, binInts, argE, Nat.reduceEqDiff, Nat.succ_ne_zero, Nat.zero_add, if_false, if_true]
  have e1 : shI .shl .u64 (IntKind.wrap .u64 n) 1 = some (.sc (.int .u64 (IntKind.wrap .u64 (IntKind.wrap .u64 n * 2 ^ 1)))) := shl_ok (b := 1) (by decide)
  have e2 : shI .shr .i64 n 63 = some (.sc (.int .i64 (n.fdiv (2 ^ 63)))) := shr_ok (b := 63) (by decide)
  simp only [e1, e2, xor_zig h1 h2, k_call, k_some, o_mov, o_bin, o_cvi, o_call, g_cons, p_some, a_tmp, a_fun, a_u64_63, fn_call, evQ, binA, binInts, binI, List.map_cons, List.map_nil, Nat.reduceEqDiff, Nat.succ_ne_zero, if_false, if_true]
  refine (call63 (zig_lt h1 h2) hl).mono ?_
  rintro x s ⟨rfl, rfl⟩
  simp only [k_call, k_seq, k_reg, o_nil, o_mov, g_cons, p_some, a_tmp, wp_ret, q_thenN, Nat.reduceEqDiff, Nat.succ_ne_zero, if_false, if_true]
  refine fin_tmp (.inr rfl) ?_
  simp only [g_cons, Nat.reduceEqDiff, Nat.succ_ne_zero, if_false, if_true]
  exact fin_keep0 ⟨frz_sl, rfl⟩

theorem call130 {st : List AO} {b : Bool} : ACall Tryz.prog 130 [.sc (.bool b)] st (fun x s => x = .sc (.int .i64 (if b then 1 else 0)) ∧ s = st) := by
  refine acall_t t130 (by simp) ?_
  simp only [c130, k_seq, k_reg, o_nil, o_mov, g_cons, p_some, a_tmp, a_i64_0, wp_seq, wp_reg, q_thenN, argE, Nat.reduceEqDiff, if_false, if_true]
  rw [wp_cond (v := b) (by simp only [g_cons, a_tmp, Nat.reduceEqDiff, Nat.succ_ne_zero, if_false, if_true])]
  refine ⟨?_, ?_⟩ <;> (rintro rfl; simp only [k_seq, k_reg, o_nil, o_mov, p_some, a_i64_0, a_i64_1, wp_seq, wp_reg, wp_skip, wp_ret, q_thenN, q_thenR, Bool.false_eq_true, if_false, if_true]; refine fin_tmp (.inr rfl) ?_; simp only [g_cons, Nat.reduceEqDiff, Nat.succ_ne_zero, if_false, if_true]; exact fin_keep0 ⟨frz_sc, rfl⟩)

theorem call65 {st : List AO} {k : Int} : ACall Tryz.prog 65 [.sc (.int .i64 k)] st (fun x s => x = .sc (.bool (decide (k = 5 ∨ k = 7))) ∧ s = st) := by
  refine acall_t t65 (by simp) ?_
  by_cases h : k = 5
  · subst h
    simp only [c65, c65r0, BEq.rfl, k_call, k_seq, k_reg, k_some, k_tf, o_nil, o_grdM, o_mov, o_pick, o_bin, g_cons, p_some, a_tmp, a_bool, a_i64_5, wp_seq, wp_reg, wp_ret, q_thenN, binA, binInts, binI, argE, Nat.reduceEqDiff, Nat.succ_ne_zero, if_false, if_true]
    refine fin_tmp (.inr rfl) ?_
    simp only [g_cons, Nat.reduceEqDiff, Nat.succ_ne_zero, if_false, if_true]
    exact fin_keep0 ⟨frz_sc, rfl⟩
  · have hb : (k == 5) = false := by simpa using h
    simp only [c65, c65r0, hb, k_call, k_seq, k_reg, k_some, k_ff, o_nil, o_grdM, o_mov, o_pick, o_bin, g_cons, p_some, a_tmp, a_bool, a_i64_5, a_i64_7, wp_seq, wp_reg, wp_ret, q_thenN, binA, binInts, binI, argE, Nat.reduceEqDiff, Nat.succ_ne_zero, Bool.false_eq_true, if_false, if_true]
    refine fin_tmp (.inr rfl) ?_
    simp only [g_cons, Nat.reduceEqDiff, Nat.succ_ne_zero, if_false, if_true]
    refine fin_keep0 ⟨?_, rfl⟩
    rw [frz_sc]
    by_cases h7 : k = 7 <;> simp [h, h7]

/-- Terms. -/
inductive Tm where
  | mk (F : Int) (L : List Tm)
mutual
def tmA : Tm → AV
  | .mk F L => .agg [.sc (.int .i64 F), .sl false (tmAL L)]
def tmAL : List Tm → List AV
  | [] => []
  | t :: r => tmA t :: tmAL r
end
mutual
def putT : Tm → List UInt8
  | .mk F L => putI F ++ if F < 0 then [] else putU L.length ++ putTL L
def putTL : List Tm → List UInt8
  | [] => []
  | t :: r => putT t ++ putTL r
end
mutual
/-- Numbers of terms are small. -/
def Tm.sm : Tm → Prop
  | .mk F L => (-2147483648 ≤ F ∧ F ≤ 2147483647) ∧ L.length ≤ 1048576 ∧ Tm.smL L
def Tm.smL : List Tm → Prop
  | [] => True
  | t :: r => t.sm ∧ Tm.smL r
end
theorem tmAL_map : ∀ {L : List Tm}, tmAL L = L.map tmA
  | [] => rfl
  | t :: r => by simp only [tmAL, List.map_cons, tmAL_map]
theorem putTL_map : ∀ {L : List Tm}, putTL L = L.flatMap putT
  | [] => rfl
  | t :: r => by simp only [putTL, List.flatMap_cons, putTL_map]
theorem smL_iff : ∀ {L : List Tm}, Tm.smL L ↔ ∀ t ∈ L, t.sm
  | [] => by simp [Tm.smL]
  | t :: r => by simp [Tm.smL, smL_iff]

theorem flat_take_len {α : Type} {f : α → List UInt8} {l : List α} {k : Nat} : ((l.take k).flatMap f).length ≤ (l.flatMap f).length := by
  have : l.flatMap f = (l.take k).flatMap f ++ (l.drop k).flatMap f := by rw [← List.flatMap_append, List.take_append_drop]
  rw [this]; simp
theorem flat_take_succ {α : Type} {f : α → List UInt8} {l : List α} {k : Nat} {a : α} (h : l[k]? = some a) : (l.take (k + 1)).flatMap f = (l.take k).flatMap f ++ f a := by
  rw [take_succ h]; simp
theorem size_mem {F : Int} {L : List Tm} {t : Tm} (h : t ∈ L) : SizeOf.sizeOf t < SizeOf.sizeOf (Tm.mk F L) := by
  have := List.sizeOf_lt_of_mem h
  simp only [Tm.mk.sizeOf_spec]; omega

theorem call166 : ∀ (n : Nat) (t : Tm), SizeOf.sizeOf t < n → t.sm → ∀ {st : List AO} {bs : List UInt8}, bs.length + (putT t).length ≤ 70368744177664 → ACall Tryz.prog 166 [bA bs, tmA t] st (fun x s => x = bA (bs ++ putT t) ∧ s = st) := by
  intro n
  induction n with
  | zero => intro t h; omega
  | succ n ih =>
    rintro ⟨F, L⟩ hsz hsm st bs hl
    simp only [Tm.sm, smL_iff] at hsm
    obtain ⟨⟨hF1, hF2⟩, hLn, hL⟩ := hsm
    have hlen : bs.length + (putI F).length ≤ 70368744177664 := by simp only [putT, List.length_append] at hl; omega
    refine acall_t t166 (by simp) ?_
    simp only [c166, c166r0, tmA, k_call, k_seq, k_reg, k_some, k_box, o_nil, o_mov, o_load, o_faddr, o_box, o_call, g_cons, p_some, a_tmp, a_fun, a_nil, wp_seq, wp_reg, q_thenN, fn_call, evQ, argE, List.map_cons, List.map_nil, Nat.reduceEqDiff, Nat.reduceAdd, Nat.succ_ne_zero, ld_ref, get_last, AV.cells?, List.length_cons, List.length_nil, Nat.zero_add, partA, List.getElem?_cons_zero, List.drop_zero, List.take_succ_cons, List.take_zero, Nat.reduceLeDiff, Bool.false_eq_true, if_false, if_true]
    refine (call66 (by omega) (by omega) (by omega)).mono ?_
    rintro x s ⟨rfl, rfl⟩
    simp only [c166r1, k_call, k_seq, k_reg, k_some, o_nil, o_mov, o_load, o_bin, o_faddr, g_cons, p_some, a_tmp, a_i64_0, wp_seq, wp_reg, q_thenN, evQ, binA, binInts, binI, Nat.reduceEqDiff, Nat.reduceAdd, Nat.succ_ne_zero, ld_ref, get_last, List.length_cons, List.length_nil, Nat.zero_add, partA, List.getElem?_cons_zero, List.drop_zero, List.take_succ_cons, List.take_zero, Nat.reduceLeDiff, Bool.false_eq_true, if_false, if_true]
    rw [wp_cond (v := decide (F < 0)) (by simp only [g_cons, a_tmp, Nat.reduceEqDiff, Nat.succ_ne_zero, if_false, if_true])]
    refine ⟨fun h => ?_, fun h => ?_⟩
    · have hF : F < 0 := by simpa using h
      simp only [k_seq, k_reg, o_nil, o_mov, g_cons, p_some, a_tmp, wp_seq, wp_reg, wp_ret, q_thenN, q_thenR, Nat.reduceEqDiff, Nat.succ_ne_zero, if_false, if_true]
      refine fin_tmp (.inr rfl) ?_
      simp only [g_cons, Nat.reduceEqDiff, Nat.succ_ne_zero, if_false, if_true]
      refine fin_pre ⟨_, rfl⟩ ⟨?_, rfl⟩
      simp only [bA, frz_sl, putT, hF, if_true, List.append_nil]
    · have hF : ¬ F < 0 := by simpa using h
      simp only [putT, hF, if_false, List.length_append] at hl
      simp only [c166r2, k_call, k_seq, k_some, o_mov, o_load, o_cvi, o_faddr, o_len, o_call, g_cons, p_some, a_tmp, a_fun, wp_seq, wp_reg, wp_skip, q_thenN, fn_call, evQ, slen, lenA, List.map_cons, List.map_nil, Nat.reduceEqDiff, Nat.reduceAdd, Nat.succ_ne_zero, ld_ref, get_last, List.length_cons, List.length_nil, Nat.zero_add, partA, List.getElem?_cons_zero, List.getElem?_cons_succ, List.drop_zero, List.drop_succ_cons, List.take_succ_cons, List.take_zero, Nat.le_refl, Bool.false_eq_true, if_false, if_true]
      intro hn
      have hn' : L.length ≤ 140737488355328 := by have := hn _ rfl; rwa [tmAL_map, List.length_map] at this
      have e1 : IntKind.wrap .u64 ((tmAL L).length : Int) = ((L.length : Nat) : Int) := by
        rw [tmAL_map, List.length_map, wrap_u64 (by omega) (by omega)]
      rw [e1]
      refine (call63 (by omega) (by simp only [List.length_append]; omega)).mono ?_
      rintro x s ⟨rfl, rfl⟩
      simp only [c166r3, k_call, k_seq, k_reg, k_some, o_nil, o_mov, o_load, o_faddr, o_len, g_cons, p_some, a_tmp, a_i64_0, wp_seq, wp_reg, wp_block, wp_loop, q_thenN, evQ, slen, lenA, Nat.reduceEqDiff, Nat.reduceAdd, Nat.succ_ne_zero, ld_ref, get_last, List.length_cons, List.length_nil, Nat.zero_add, partA, List.getElem?_cons_zero, List.getElem?_cons_succ, List.drop_zero, List.drop_succ_cons, List.take_succ_cons, List.take_zero, Nat.le_refl, Bool.false_eq_true, if_false, if_true]
      intro _
      refine loop_rule (fun (k : Nat) E st' => k ≤ L.length ∧ (∃ ext, st' = st ++ ext) ∧ E = [(0, bA (bs ++ putI F ++ putU L.length ++ (L.take k).flatMap putT)), (22, .sl false (tmAL L)), (23, .sc (.int .i64 (L.length : Nat))), (24, .sc (.int .i64 (k : Nat)))]) (fun k => L.length - k)
        0 [(0, bA (bs ++ putI F ++ putU L.length)), (22, .sl false (tmAL L)), (23, .sc (.int .i64 (L.length : Nat))), (24, .sc (.int .i64 0))] (by simp only [SubE, tmAL_map, List.length_map, g_cons, Nat.reduceEqDiff, Nat.succ_ne_zero, and_true, if_false, if_true]) ⟨Nat.zero_le _, ⟨_, rfl⟩, by simp⟩ ?_
      rintro k E st' ⟨hk, ⟨ext, rfl⟩, rfl⟩
      simp only [c166l6, k_call, k_seq, k_reg, k_some, o_nil, o_bin, g_cons, p_some, a_tmp, wp_seq, wp_reg, q_thenN, binA, binInts, binI, Nat.reduceEqDiff, Nat.succ_ne_zero, if_false, if_true]
      rw [wp_cond (v := decide (k < L.length)) (by simp only [dec_lt, g_cons, a_tmp, Nat.reduceEqDiff, Nat.succ_ne_zero, if_false, if_true])]
      refine ⟨fun h => ?_, fun h => ?_⟩
      · have hk1 : k < L.length := by simpa using h
        obtain ⟨⟨G, M⟩, ht, hmem⟩ := get_lt hk1
        have ht' : (tmAL L)[k]? = some (.agg [.sc (.int .i64 G), .sl false (tmAL M)]) := by rw [tmAL_map, get_map ht, tmA]
        have hk2 : k < (tmAL L).length := by rw [tmAL_map, List.length_map]; exact hk1
        simp only [c166r4, hk2, ld_full (sz := 2) ht' rfl, k_call, k_seq, k_some, o_load, o_iaddr, o_alloc, g_cons, p_some, a_tmp, wp_seq, wp_reg, wp_skip, wp_block, q_thenN, evQ, slen, natA_nat, Nat.reduceEqDiff, Nat.succ_ne_zero, if_false, if_true]
        rw [o_store (by simp only [g_cons, a_tmp, Nat.reduceEqDiff, Nat.succ_ne_zero, if_false, if_true]; rfl)]
        simp only [c166r5, k_call, k_seq, k_reg, k_some, o_nil, o_mov, o_load, o_call, g_cons, p_some, p_none, a_tmp, a_fun, wp_reg, q_thenN, fn_call, List.map_cons, List.map_nil, Nat.reduceEqDiff, Nat.reduceAdd, Nat.succ_ne_zero, ld_ref, get_last, set_last, AV.cells?, List.length_cons, List.length_nil, Nat.zero_add, partA, List.getElem?_cons_zero, List.drop_zero, List.drop_succ_cons, List.take_succ_cons, List.take_zero, putAt, List.nil_append, List.drop_nil, List.append_nil, Nat.le_refl, true_and, and_true, if_false, if_true]
        have hle : (L.take (k + 1)).flatMap putT = (L.take k).flatMap putT ++ putT (.mk G M) := flat_take_succ ht
        have hle2 := flat_take_len (f := putT) (l := L) (k := k + 1)
        rw [hle, List.length_append] at hle2
        have hl2 := hl
        rw [putTL_map] at hl2
        have := ih (.mk G M) (by have := size_mem (F := F) hmem; omega) (hL _ hmem) (st := st ++ ext ++ [AO.cells [AV.sc (Value.int IntKind.i64 G), AV.sl false (tmAL M)]]) (bs := bs ++ putI F ++ putU L.length ++ (L.take k).flatMap putT) (by simp only [List.length_append]; omega)
        rw [tmA] at this
        refine this.mono ?_
        rintro x s ⟨rfl, rfl⟩
        simp only [wrap_succ (show k < 9223372036854775807 by omega), k_call, k_seq, k_reg, k_some, o_nil, o_mov, o_bin, g_cons, p_some, a_tmp, a_i64_1, wp_reg, q_thenN, q_blkN, q_nxtN, binA, binInts, binI, Nat.reduceEqDiff, Nat.succ_ne_zero, true_and, if_false, if_true]
        refine ⟨_, (?_ : SubE [(0, _), (22, _), (23, _), (24, _)] _), k + 1, by omega, by omega, ⟨_, List.append_assoc ..⟩, rfl⟩
        simp only [SubE, hle, List.append_assoc, g_cons, Nat.reduceEqDiff, Nat.succ_ne_zero, and_true, if_false, if_true]
      · have hk0 : k = L.length := by have : ¬ k < L.length := by simpa using h
                                      omega
        subst hk0
        simp only [k_seq, k_reg, o_nil, o_mov, g_cons, p_some, a_tmp, wp_seq, wp_reg, wp_ret, wp_exit, q_thenN, q_thenE, q_blkE, q_nxtE, Nat.reduceEqDiff, Nat.succ_ne_zero, if_false, if_true]
        refine fin_tmp (.inr rfl) ?_
        simp only [g_cons, Nat.reduceEqDiff, Nat.succ_ne_zero, if_false, if_true]
        refine fin_pre ⟨_, rfl⟩ ⟨?_, rfl⟩
        simp only [bA, frz_sl, putT, hF, if_false, List.take_length, putTL_map, List.append_assoc]
end Go.AW

/-
  Bytes of clauses, nodes, and lists of nodes.
-/
namespace Go.AW
open Go Go.RowKit Go.Proofs
set_option linter.unusedVariables false
set_option linter.unusedSimpArgs false
set_option maxRecDepth 100000

structure Li where
  neg : Bool
  a : Tm
  b : Tm
structure Nd where
  id : Int
  rule : Int
  p : Int
  q : Int
  c : List Li
def Tm.F : Tm → Int
  | .mk F _ => F
def Tm.L : Tm → List Tm
  | .mk _ L => L
def liA (l : Li) : AV := .agg [.sc (.bool l.neg), .sc (.int .i64 l.a.F), .sl false (tmAL l.a.L), .sc (.int .i64 l.b.F), .sl false (tmAL l.b.L)]
def ndA (n : Nd) : AV := .agg [.sc (.int .i64 n.id), .sc (.int .i64 n.rule), .sc (.int .i64 n.p), .sc (.int .i64 n.q), .sl false (n.c.map liA)]
def eventA (n : Nd) : AV := .agg [.sc (.int .i64 0), .sc (.int .i64 0), .sc (.int .i64 n.id), .sc (.int .i64 n.rule), .sc (.int .i64 n.p), .sc (.int .i64 n.q), .sl false (n.c.map liA)]
def putL (l : Li) : List UInt8 := putU (if l.neg then 1 else 0) ++ putT l.a ++ putT l.b
def putC (c : List Li) : List UInt8 := putU c.length ++ c.flatMap putL
def putN (n : Nd) : List UInt8 := putI n.id ++ putI n.rule ++ putI n.p ++ putI n.q ++ putC n.c
def putEv (n : Nd) : List UInt8 := putU 0 ++ putN n
def putEs (l : List Nd) : List UInt8 := putU l.length ++ l.flatMap putEv
def smI (n : Int) : Prop := -2147483648 ≤ n ∧ n ≤ 2147483647
def Li.sm (l : Li) : Prop := l.a.sm ∧ l.b.sm
def Nd.sm (n : Nd) : Prop := smI n.id ∧ smI n.rule ∧ smI n.p ∧ smI n.q ∧ ∀ l ∈ n.c, l.sm

theorem call114 {st : List AO} {bs : List UInt8} {c : List Li} (hsm : ∀ l ∈ c, l.sm) (hl : bs.length + (putC c).length ≤ 70368744177664) : ACall Tryz.prog 114 [bA bs, .sl false (c.map liA)] st (fun x s => x = bA (bs ++ putC c) ∧ s = st) := by
  simp only [putC, List.length_append] at hl
  refine acall_t t114 (by simp) ?_
  simp only [c114, c114r0, List.length_map, k_call, k_seq, k_reg, k_some, o_nil, o_mov, o_cvi, o_len, o_call, g_cons, p_some, a_tmp, a_fun, a_nil, wp_seq, wp_reg, q_thenN, fn_call, evQ, slen, lenA, argE, List.map_cons, List.map_nil, Nat.reduceEqDiff, Nat.succ_ne_zero, Nat.zero_add, if_false, if_true]
  intro hn
  have hn' : c.length ≤ 140737488355328 := hn _ rfl
  rw [wrap_u64 (n := (c.length : Int)) (by omega) (by omega)]
  refine (call63 (by omega) (by omega)).mono ?_
  rintro x st ⟨rfl, rfl⟩
  simp only [c114r1, List.length_map, k_call, k_seq, k_reg, k_some, o_nil, o_mov, o_len, g_cons, p_some, a_tmp, a_i64_0, wp_seq, wp_reg, wp_block, wp_loop, q_thenN, slen, lenA, Nat.reduceEqDiff, Nat.succ_ne_zero, if_false, if_true]
  intro _
  refine loop_rule (fun (k : Nat) E st' => k ≤ c.length ∧ (∃ ext, st' = st ++ ext) ∧ E = [(0, bA (bs ++ putU c.length ++ (c.take k).flatMap putL)), (12, .sl false (c.map liA)), (13, .sc (.int .i64 (c.length : Nat))), (14, .sc (.int .i64 (k : Nat)))]) (fun k => c.length - k)
    0 [(0, bA (bs ++ putU c.length)), (12, .sl false (c.map liA)), (13, .sc (.int .i64 (c.length : Nat))), (14, .sc (.int .i64 0))] (by simp only [SubE, g_cons, Nat.reduceEqDiff, Nat.succ_ne_zero, and_true, if_false, if_true]) ⟨Nat.zero_le _, ⟨[], by simp⟩, by simp⟩ ?_
  rintro k E st' ⟨hk, ⟨ext, rfl⟩, rfl⟩
  simp only [c114l5, k_call, k_seq, k_reg, k_some, o_nil, o_bin, g_cons, p_some, a_tmp, wp_seq, wp_reg, q_thenN, binA, binInts, binI, Nat.reduceEqDiff, Nat.succ_ne_zero, if_false, if_true]
  rw [wp_cond (v := decide (k < c.length)) (by simp only [dec_lt, g_cons, a_tmp, Nat.reduceEqDiff, Nat.succ_ne_zero, if_false, if_true])]
  refine ⟨fun h => ?_, fun h => ?_⟩
  · have hk1 : k < c.length := by simpa using h
    obtain ⟨l, ht, hmem⟩ := get_lt hk1
    have ht' : (c.map liA)[k]? = some (liA l) := get_map ht
    have hk2 : k < (c.map liA).length := by simpa using hk1
    have hle : (c.take (k + 1)).flatMap putL = (c.take k).flatMap putL ++ putL l := flat_take_succ ht
    have hle2 := flat_take_len (f := putL) (l := c) (k := k + 1)
    obtain ⟨neg, ⟨F, L⟩, ⟨G, M⟩⟩ := l
    obtain ⟨hs1, hs2⟩ := hsm _ hmem
    simp only [liA, Tm.F, Tm.L] at ht'
    rw [hle, List.length_append] at hle2
    simp only [putL, List.length_append] at hle2
    simp only [c114r2, hk2, ld_full (sz := 5) ht' rfl, k_call, k_seq, k_some, o_load, o_iaddr, o_alloc, g_cons, p_some, a_tmp, wp_seq, wp_reg, wp_skip, wp_block, q_thenN, evQ, slen, natA_nat, Nat.reduceEqDiff, Nat.succ_ne_zero, if_false, if_true]
    rw [o_store (by simp only [g_cons, a_tmp, Nat.reduceEqDiff, Nat.succ_ne_zero, if_false, if_true]; rfl)]
    simp only [c114r3, k_call, k_seq, k_reg, k_some, o_nil, o_mov, o_load, o_faddr, o_call, g_cons, p_some, p_none, a_tmp, a_fun, wp_seq, wp_reg, q_thenN, fn_call, evQ, List.map_cons, List.map_nil, Nat.reduceEqDiff, Nat.reduceAdd, Nat.succ_ne_zero, ld_ref, get_last, set_last, AV.cells?, List.length_cons, List.length_nil, Nat.zero_add, partA, List.getElem?_cons_zero, List.drop_zero, List.drop_succ_cons, List.take_succ_cons, List.take_zero, putAt, List.nil_append, List.drop_nil, List.append_nil, Nat.reduceLeDiff, Nat.le_refl, true_and, and_true, Bool.false_eq_true, if_false, if_true]
    refine call130.mono ?_
    rintro x s ⟨rfl, rfl⟩
    simp only [k_call, k_some, o_cvi, o_call, g_cons, p_some, a_tmp, a_fun, fn_call, evQ, List.map_cons, List.map_nil, Nat.reduceEqDiff, Nat.succ_ne_zero, if_false, if_true]
    have e2 : IntKind.wrap .u64 (if neg = true then 1 else 0) = (((if neg = true then 1 else 0 : Nat)) : Int) := by cases neg <;> rfl
    rw [e2]
    refine (call63 (by split <;> omega) (by simp only [List.length_append]; omega)).mono ?_
    rintro x s ⟨rfl, rfl⟩
    simp only [c114d4, k_drw, wp_draw, d_mov, d_faddr, d_load, k_call, k_seq, k_reg, k_some, o_nil, o_mov, g_cons, p_some, a_tmp, q_thenN, evQ, Nat.reduceEqDiff, Nat.reduceAdd, Nat.succ_ne_zero, ld_ref, get_last, List.length_cons, List.length_nil, Nat.zero_add, partA, List.getElem?_cons_zero, List.getElem?_cons_succ, List.drop_zero, List.drop_succ_cons, List.take_succ_cons, List.take_zero, Nat.reduceLeDiff, if_false, if_true]
    refine d_call2 (x := bA (bs ++ putU c.length ++ (c.take k).flatMap putL ++ putU (if neg = true then 1 else 0) ++ putT (.mk F L))) (st' := st ++ ext ++ [AO.cells [AV.sc (Value.bool neg), AV.sc (Value.int IntKind.i64 F), AV.sl false (tmAL L), AV.sc (Value.int IntKind.i64 G), AV.sl false (tmAL M)]]) ?_ (fun p hp => by cases hp) ?_
    · simp only [g_cons, a_tmp, a_fun, fn_call, List.map_cons, List.map_nil, Nat.reduceEqDiff, Nat.succ_ne_zero, if_false, if_true]
      have := call166 _ (.mk F L) (Nat.lt_succ_self _) hs1 (st := st ++ ext ++ [AO.cells [AV.sc (Value.bool neg), AV.sc (Value.int IntKind.i64 F), AV.sl false (tmAL L), AV.sc (Value.int IntKind.i64 G), AV.sl false (tmAL M)]]) (bs := bs ++ putU c.length ++ (c.take k).flatMap putL ++ putU (if neg = true then 1 else 0)) (by simp only [List.length_append]; omega)
      rw [tmA] at this
      exact this
    · simp only [k_drw, d_faddr, k_some, g_cons, p_some, a_tmp, evQ, List.map_nil, Nat.reduceEqDiff, Nat.succ_ne_zero, Nat.zero_add, if_false, if_true]
      refine d_loadB (v := .agg [AV.sc (Value.int IntKind.i64 G), AV.sl false (tmAL M)]) (by simp only [g_cons, a_tmp, Nat.reduceEqDiff, Nat.reduceAdd, Nat.succ_ne_zero, ld_ref, get_last, List.length_cons, List.length_nil, Nat.zero_add, partA, List.getElem?_cons_zero, List.getElem?_cons_succ, List.drop_zero, List.drop_succ_cons, List.take_succ_cons, List.take_zero, Nat.le_refl, if_false, if_true]) (by intro s hs; simp only [List.take_succ_cons, List.take_zero, List.mem_singleton] at hs; subst hs; simp only [g_cons, a_tmp, Nat.reduceEqDiff, Nat.reduceAdd, Nat.succ_ne_zero, ld_ref, get_last, List.length_cons, List.length_nil, Nat.zero_add, partA, List.getElem?_cons_zero, List.getElem?_cons_succ, List.drop_zero, List.drop_succ_cons, List.take_succ_cons, List.take_zero, Nat.le_refl, if_false, if_true]) ?_
      refine d_call2 (x := bA (bs ++ putU c.length ++ (c.take k).flatMap putL ++ putU (if neg = true then 1 else 0) ++ putT (.mk F L) ++ putT (.mk G M))) (st' := st ++ ext ++ [AO.cells [AV.sc (Value.bool neg), AV.sc (Value.int IntKind.i64 F), AV.sl false (tmAL L), AV.sc (Value.int IntKind.i64 G), AV.sl false (tmAL M)]]) ?_ (fun p hp => by cases hp) ?_
      · simp only [g_cons, p_some, a_tmp, a_fun, fn_call, List.map_cons, List.map_nil, Nat.reduceEqDiff, Nat.succ_ne_zero, if_false, if_true]
        have := call166 _ (.mk G M) (Nat.lt_succ_self _) hs2 (st := st ++ ext ++ [AO.cells [AV.sc (Value.bool neg), AV.sc (Value.int IntKind.i64 F), AV.sl false (tmAL L), AV.sc (Value.int IntKind.i64 G), AV.sl false (tmAL M)]]) (bs := bs ++ putU c.length ++ (c.take k).flatMap putL ++ putU (if neg = true then 1 else 0) ++ putT (.mk F L)) (by simp only [List.length_append]; omega)
        rw [tmA] at this
        exact this
      · simp only [d_nil, d_mov, k_call, k_seq, k_reg, k_some, o_nil, o_mov, o_bin, g_cons, p_some, a_tmp, a_i64_1, wp_reg, q_thenN, q_blkN, q_nxtN, binA, binInts, binI, List.map_nil, Nat.reduceEqDiff, Nat.succ_ne_zero, true_and, if_false, if_true]
        rw [wrap_succ (by omega)]
        refine ⟨_, (?_ : SubE [(0, _), (12, _), (13, _), (14, _)] _), k + 1, by omega, by omega, ⟨_, List.append_assoc ..⟩, rfl⟩
        simp only [SubE, hle, putL, List.append_assoc, g_cons, Nat.reduceEqDiff, Nat.succ_ne_zero, and_true, if_false, if_true]
  · have hk0 : k = c.length := by have : ¬ k < c.length := by simpa using h
                                  omega
    subst hk0
    simp only [k_seq, k_reg, o_nil, o_mov, g_cons, p_some, a_tmp, wp_seq, wp_reg, wp_ret, wp_exit, q_thenN, q_thenE, q_blkE, q_nxtE, Nat.reduceEqDiff, Nat.succ_ne_zero, if_false, if_true]
    refine fin_tmp (.inr rfl) ?_
    simp only [g_cons, Nat.reduceEqDiff, Nat.succ_ne_zero, if_false, if_true]
    refine fin_pre ⟨_, rfl⟩ ⟨?_, rfl⟩
    simp only [bA, frz_sl, putC, List.take_length, List.append_assoc]

theorem call64 {st : List AO} {bs : List UInt8} {n : Nd} (hsm : n.sm) (hl : bs.length + (putN n).length ≤ 70368744177664) : ACall Tryz.prog 64 [bA bs, ndA n] st (fun x s => x = bA (bs ++ putN n) ∧ s = st) := by
  obtain ⟨h1, h2, h3, h4, h5⟩ := hsm
  obtain ⟨i, r, p, q, c⟩ := n
  simp only [putN, List.length_append] at hl
  refine acall_t t64 (by simp) ?_
  simp only [c64, c64r0, ndA, k_call, k_seq, k_reg, k_some, k_box, o_nil, o_mov, o_load, o_faddr, o_box, g_cons, p_some, a_tmp, a_nil, wp_seq, wp_reg, q_thenN, evQ, argE, Nat.reduceEqDiff, Nat.reduceAdd, Nat.succ_ne_zero, ld_ref, get_last, AV.cells?, List.length_cons, List.length_nil, Nat.zero_add, partA, List.getElem?_cons_zero, List.getElem?_cons_succ, List.drop_zero, List.drop_succ_cons, List.take_succ_cons, List.take_zero, Nat.reduceLeDiff, Bool.false_eq_true, if_false, if_true]
  rw [o_mksl (by intro y hy; simp only [List.mem_cons, List.not_mem_nil, or_false] at hy; rcases hy with rfl | rfl | rfl | rfl <;> (simp only [g_cons, a_tmp, Nat.reduceEqDiff, Nat.succ_ne_zero, if_false, if_true]; rfl))]
  simp only [k_call, k_seq, k_reg, k_some, o_nil, o_mov, o_len, g_cons, p_some, a_tmp, a_i64_0, wp_block, wp_loop, q_thenN, slen, lenA, List.map_cons, List.map_nil, Nat.reduceEqDiff, Nat.reduceAdd, Nat.succ_ne_zero, List.length_cons, List.length_nil, Nat.zero_add, if_false, if_true]
  refine ⟨by intro x hx; simp only [List.mem_cons, List.not_mem_nil, or_false] at hx; rcases hx with rfl | rfl | rfl | rfl <;> exact ⟨rfl, rfl⟩, ?_⟩
  intro _
  have all : ∀ (k : Nat) (x : Int), [i, r, p, q][k]? = some x → smI x := by
    intro k x hx
    match k with
    | 0 => simp at hx; subst hx; exact h1
    | 1 => simp at hx; subst hx; exact h2
    | 2 => simp at hx; subst hx; exact h3
    | 3 => simp at hx; subst hx; exact h4
    | k + 4 => simp at hx
  refine loop_rule (fun (k : Nat) E st' => k ≤ 4 ∧ st' = st ++ [.cells [.sc (.int .i64 i), .sc (.int .i64 r), .sc (.int .i64 p), .sc (.int .i64 q), .sl false (c.map liA)]] ∧ E = [(0, bA (bs ++ ([i, r, p, q].take k).flatMap putI)), (15, .sl true ([i, r, p, q].map fun x => .sc (.int .i64 x))), (16, .sc (.int .i64 (4 : Nat))), (17, .sc (.int .i64 (k : Nat))), (3, .ref st.length 0)]) (fun k => 4 - k)
    0 [(0, bA bs), (15, .sl true ([i, r, p, q].map fun x => .sc (.int .i64 x))), (16, .sc (.int .i64 (4 : Nat))), (17, .sc (.int .i64 0)), (3, .ref st.length 0)] ⟨by simp only [g_cons, Nat.reduceEqDiff, if_false, if_true], by simp only [g_cons, List.map_cons, List.map_nil, Nat.reduceEqDiff, Nat.succ_ne_zero, if_false, if_true]; rfl, by simp only [g_cons, Nat.reduceEqDiff, Nat.succ_ne_zero, if_false, if_true], by simp only [g_cons, Nat.reduceEqDiff, Nat.succ_ne_zero, if_false, if_true], by simp only [g_cons, Nat.reduceEqDiff, Nat.succ_ne_zero, if_false, if_true], trivial⟩ ⟨Nat.zero_le _, rfl, by simp⟩ ?_
  rintro k E st' ⟨hk, rfl, rfl⟩
  simp only [c64l3, k_call, k_seq, k_reg, k_some, o_nil, o_bin, g_cons, p_some, a_tmp, wp_seq, wp_reg, q_thenN, binA, binInts, binI, List.map_cons, List.map_nil, Nat.reduceEqDiff, Nat.succ_ne_zero, if_false, if_true]
  rw [wp_cond (v := decide (k < 4)) (by simp only [dec_lt, g_cons, a_tmp, Nat.reduceEqDiff, Nat.succ_ne_zero, if_false, if_true])]
  refine ⟨fun h => ?_, fun h => ?_⟩
  · have hk1 : k < 4 := by simpa using h
    obtain ⟨x, hx, _⟩ := get_lt (l := [i, r, p, q]) (k := k) hk1
    have hx' : ([i, r, p, q].map fun x => AV.sc (.int .i64 x))[k]? = some (.sc (.int .i64 x)) := get_map hx
    have hs := all k x hx
    have hle : ([i, r, p, q].take (k + 1)).flatMap putI = ([i, r, p, q].take k).flatMap putI ++ putI x := flat_take_succ hx
    have hle2 := flat_take_len (f := putI) (l := [i, r, p, q]) (k := k + 1)
    rw [hle, List.length_append] at hle2
    have e4 : ([i, r, p, q].flatMap putI).length = (putI i).length + (putI r).length + (putI p).length + (putI q).length := by simp; omega
    simp only [c64r1, k_seq, o_iaddr, g_cons, a_tmp, wp_seq, wp_reg, wp_skip, wp_block, q_thenN, evQ, slen, natA_nat, List.map_cons, List.map_nil, Nat.reduceEqDiff, Nat.reduceAdd, Nat.succ_ne_zero, List.length_cons, List.length_nil, Nat.zero_add, if_false, if_true] at hx' ⊢
    simp only [hk1, ld_one hx', c64r2, k_call, k_seq, k_reg, k_some, o_nil, o_mov, o_load, o_call, g_cons, p_some, a_tmp, a_fun, wp_reg, q_thenN, fn_call, List.map_cons, List.map_nil, Nat.reduceEqDiff, Nat.succ_ne_zero, if_false, if_true]
    have := call66 (st := st ++ [.cells [.sc (.int .i64 i), .sc (.int .i64 r), .sc (.int .i64 p), .sc (.int .i64 q), .sl false (c.map liA)]]) (n := x) (bs := bs ++ ([i, r, p, q].take k).flatMap putI) (by have := hs.1; omega) (by have := hs.2; omega) (by simp only [List.length_append]; omega)
    refine this.mono ?_
    rintro x' s ⟨rfl, rfl⟩
    simp only [wrap_succ (show k < 9223372036854775807 by omega), k_call, k_seq, k_reg, k_some, o_nil, o_mov, o_bin, g_cons, p_some, a_tmp, a_i64_1, wp_reg, q_thenN, q_blkN, q_nxtN, binA, binInts, binI, Nat.reduceEqDiff, Nat.succ_ne_zero, true_and, if_false, if_true]
    refine ⟨_, (?_ : SubE [(0, _), (15, _), (16, _), (17, _), (3, _)] _), k + 1, by omega, by omega, rfl⟩
    rw [hle, ← List.append_assoc]
    simp only [SubE, g_cons, Nat.reduceEqDiff, Nat.succ_ne_zero, and_true, if_false, if_true]
  · have hk0 : k = 4 := by have : ¬ k < 4 := by simpa using h
                           omega
    subst hk0
    simp only [c64r4, k_call, k_seq, k_some, o_mov, o_load, o_faddr, o_call, g_cons, p_some, a_tmp, a_fun, wp_seq, wp_reg, wp_exit, q_thenN, q_thenE, q_blkE, q_nxtE, fn_call, evQ, List.map_cons, List.map_nil, Nat.reduceEqDiff, Nat.reduceAdd, Nat.succ_ne_zero, ld_ref, get_last, List.length_cons, List.length_nil, Nat.zero_add, partA, List.getElem?_cons_zero, List.getElem?_cons_succ, List.drop_zero, List.drop_succ_cons, List.take_succ_cons, List.take_zero, Nat.le_refl, Bool.false_eq_true, if_false, if_true]
    refine (call114 h5 (by simp only [List.length_append, List.flatMap_cons, List.flatMap_nil, List.length_nil]; omega)).mono ?_
    rintro x s ⟨rfl, rfl⟩
    simp only [k_call, k_seq, k_reg, o_nil, o_mov, g_cons, p_some, a_tmp, wp_ret, q_thenN, Nat.reduceEqDiff, Nat.succ_ne_zero, if_false, if_true]
    refine fin_tmp (.inr rfl) ?_
    simp only [g_cons, Nat.reduceEqDiff, Nat.succ_ne_zero, if_false, if_true]
    refine fin_pre ⟨_, rfl⟩ ⟨?_, rfl⟩
    simp only [bA, frz_sl, putN, List.flatMap_cons, List.flatMap_nil, List.append_nil, List.append_assoc]
end Go.AW

/-
  Bytes of lists of nodes.
-/
namespace Go.AW
open Go Go.RowKit Go.Proofs
set_option linter.unusedVariables false
set_option linter.unusedSimpArgs false
set_option maxRecDepth 100000

theorem call31 {st : List AO} {bs : List UInt8} {c : List Nd} (hsm : ∀ l ∈ c, l.sm) (hl : bs.length + (putEs c).length ≤ 70368744177664) : ACall Tryz.prog 31 [bA bs, .sl false (c.map eventA)] st (fun x s => x = bA (bs ++ putEs c) ∧ s = st) := by
  simp only [putEs, List.length_append] at hl
  refine acall_t t31 (by simp) ?_
  simp only [c31, c31r0, List.length_map, k_call, k_seq, k_reg, k_some, o_nil, o_mov, o_cvi, o_len, o_call, g_cons, p_some, a_tmp, a_fun, a_nil, wp_seq, wp_reg, q_thenN, fn_call, evQ, slen, lenA, argE, List.map_cons, List.map_nil, Nat.reduceEqDiff, Nat.succ_ne_zero, Nat.zero_add, if_false, if_true]
  intro hn
  have hn' : c.length ≤ 140737488355328 := hn _ rfl
  rw [wrap_u64 (n := (c.length : Int)) (by omega) (by omega)]
  refine (call63 (by omega) (by omega)).mono ?_
  rintro x st ⟨rfl, rfl⟩
  simp only [c31r1, List.length_map, k_call, k_seq, k_reg, k_some, o_nil, o_mov, o_len, g_cons, p_some, a_tmp, a_i64_0, wp_seq, wp_reg, wp_block, wp_loop, q_thenN, slen, lenA, Nat.reduceEqDiff, Nat.succ_ne_zero, if_false, if_true]
  intro _
  refine loop_rule (fun (k : Nat) E st' => k ≤ c.length ∧ (∃ ext, st' = st ++ ext) ∧ E = [(0, bA (bs ++ putU c.length ++ (c.take k).flatMap putEv)), (12, .sl false (c.map eventA)), (13, .sc (.int .i64 (c.length : Nat))), (14, .sc (.int .i64 (k : Nat)))]) (fun k => c.length - k)
    0 [(0, bA (bs ++ putU c.length)), (12, .sl false (c.map eventA)), (13, .sc (.int .i64 (c.length : Nat))), (14, .sc (.int .i64 0))] (by simp only [SubE, g_cons, Nat.reduceEqDiff, Nat.succ_ne_zero, and_true, if_false, if_true]) ⟨Nat.zero_le _, ⟨[], by simp⟩, by simp⟩ ?_
  rintro k E st' ⟨hk, ⟨ext, rfl⟩, rfl⟩
  simp only [c31l8, k_call, k_seq, k_reg, k_some, o_nil, o_bin, g_cons, p_some, a_tmp, wp_seq, wp_reg, q_thenN, binA, binInts, binI, Nat.reduceEqDiff, Nat.succ_ne_zero, if_false, if_true]
  rw [wp_cond (v := decide (k < c.length)) (by simp only [dec_lt, g_cons, a_tmp, Nat.reduceEqDiff, Nat.succ_ne_zero, if_false, if_true])]
  refine ⟨fun h => ?_, fun h => ?_⟩
  · have hk1 : k < c.length := by simpa using h
    obtain ⟨l, ht, hmem⟩ := get_lt hk1
    have ht' : (c.map eventA)[k]? = some (eventA l) := get_map ht
    have hk2 : k < (c.map eventA).length := by simpa using hk1
    have hle : (c.take (k + 1)).flatMap putEv = (c.take k).flatMap putEv ++ putEv l := flat_take_succ ht
    have hle2 := flat_take_len (f := putEv) (l := c) (k := k + 1)
    rw [hle, List.length_append] at hle2
    simp only [putEv, List.length_append] at hle2
    simp only [eventA] at ht'
    simp only [c31r2, hk2, ld_full (sz := 7) ht' rfl, k_call, k_seq, k_some, o_load, o_iaddr, o_alloc, g_cons, p_some, a_tmp, wp_seq, wp_reg, wp_skip, wp_block, q_thenN, evQ, slen, natA_nat, Nat.reduceEqDiff, Nat.succ_ne_zero, if_false, if_true]
    rw [o_store (by simp only [g_cons, a_tmp, Nat.reduceEqDiff, Nat.succ_ne_zero, if_false, if_true]; rfl)]
    simp only [c31r3, k_call, k_seq, k_reg, k_some, o_nil, o_mov, o_load, o_cvi, o_faddr, o_call, g_cons, p_some, p_none, a_tmp, a_fun, wp_seq, wp_reg, q_thenN, fn_call, evQ, List.map_cons, List.map_nil, Nat.reduceEqDiff, Nat.reduceAdd, Nat.succ_ne_zero, ld_ref, get_last, set_last, AV.cells?, List.length_cons, List.length_nil, Nat.zero_add, partA, List.getElem?_cons_zero, List.drop_zero, List.drop_succ_cons, List.take_succ_cons, List.take_zero, putAt, List.nil_append, List.drop_nil, List.append_nil, Nat.reduceLeDiff, Nat.le_refl, true_and, and_true, Bool.false_eq_true, if_false, if_true]
    have e0 : IntKind.wrap .u64 0 = ((0 : Nat) : Int) := rfl
    rw [e0]
    refine (call63 (by omega) (by simp only [List.length_append]; omega)).mono ?_
    rintro x s ⟨rfl, rfl⟩
    simp only [c31r4, k_call, k_seq, k_reg, k_some, o_nil, o_mov, o_load, o_bin, o_faddr, g_cons, p_some, a_tmp, a_i64_0, wp_seq, wp_reg, wp_block, q_thenN, evQ, binA, binInts, binI, Nat.reduceEqDiff, Nat.reduceAdd, Nat.succ_ne_zero, ld_ref, get_last, List.length_cons, List.length_nil, Nat.zero_add, partA, List.getElem?_cons_zero, List.drop_zero, List.take_succ_cons, List.take_zero, Nat.reduceLeDiff, Bool.false_eq_true, if_false, if_true]
    rw [wp_cond (v := true) (by simp only [g_cons, a_tmp, Nat.reduceEqDiff, Nat.succ_ne_zero, if_false, if_true]; rfl)]
    refine ⟨fun _ => ?_, (fun h => by cases h)⟩
    simp only [c31r5, k_call, k_some, o_mov, o_load, o_faddr, o_call, g_cons, p_some, a_tmp, a_fun, wp_reg, fn_call, evQ, List.map_cons, List.map_nil, Nat.reduceEqDiff, Nat.reduceAdd, Nat.succ_ne_zero, ld_ref, get_last, List.length_cons, List.length_nil, Nat.zero_add, partA, List.getElem?_cons_zero, List.getElem?_cons_succ, List.drop_zero, List.drop_succ_cons, List.take_succ_cons, List.take_zero, Nat.le_refl, if_false, if_true]
    have := call64 (n := l) (hsm _ hmem) (st := st ++ ext ++ [AO.cells [AV.sc (Value.int IntKind.i64 0), AV.sc (Value.int IntKind.i64 0), AV.sc (Value.int IntKind.i64 l.id), AV.sc (Value.int IntKind.i64 l.rule), AV.sc (Value.int IntKind.i64 l.p), AV.sc (Value.int IntKind.i64 l.q), AV.sl false (l.c.map liA)]]) (bs := bs ++ putU c.length ++ (c.take k).flatMap putEv ++ putU 0) (by simp only [List.length_append]; omega)
    refine this.mono ?_
    rintro x s ⟨rfl, rfl⟩
    simp only [wrap_succ (show k < 9223372036854775807 by omega), k_call, k_seq, k_reg, k_some, o_nil, o_mov, o_bin, g_cons, p_some, a_tmp, a_i64_1, wp_reg, q_thenN, q_blkN, q_nxtN, binA, binInts, binI, Nat.reduceEqDiff, Nat.succ_ne_zero, true_and, if_false, if_true]
    refine ⟨_, (?_ : SubE [(0, _), (12, _), (13, _), (14, _)] _), k + 1, by omega, by omega, ⟨_, List.append_assoc ..⟩, rfl⟩
    simp only [SubE, hle, putEv, List.append_assoc, g_cons, Nat.reduceEqDiff, Nat.succ_ne_zero, and_true, if_false, if_true]
  · have hk0 : k = c.length := by have : ¬ k < c.length := by simpa using h
                                  omega
    subst hk0
    simp only [k_seq, k_reg, o_nil, o_mov, g_cons, p_some, a_tmp, wp_seq, wp_reg, wp_ret, wp_exit, q_thenN, q_thenE, q_blkE, q_nxtE, Nat.reduceEqDiff, Nat.succ_ne_zero, if_false, if_true]
    refine fin_tmp (.inr rfl) ?_
    simp only [g_cons, Nat.reduceEqDiff, Nat.succ_ne_zero, if_false, if_true]
    refine fin_pre ⟨_, rfl⟩ ⟨?_, rfl⟩
    simp only [bA, frz_sl, putEs, List.take_length, List.append_assoc]

theorem nd_cells {c : List Nd} : ∀ x ∈ c.map eventA, x.cells.length = 7 := by
  intro x hx; obtain ⟨n, _, rfl⟩ := List.mem_map.1 hx; rfl

/-- proof.Put -/
theorem call14 {st : List AO} {c : List Nd} (hsm : ∀ l ∈ c, l.sm) (hlen : c.length ≤ 1000) (hl : (putEs c).length ≤ 70368744177664) : ACall Tryz.prog 14 [.sl false (c.map ndA)] st (fun x s => x = bA (putEs c) ∧ s = st) := by
  refine acall_t t14 (by simp) ?_
  simp only [c14, c14r0, List.length_map, k_call, k_seq, k_reg, k_some, o_nil, o_mov, o_len, g_cons, p_some, a_tmp, a_nil, a_i64_0, wp_seq, wp_reg, wp_block, wp_loop, q_thenN, slen, lenA, argE, Nat.reduceEqDiff, Nat.succ_ne_zero, if_false, if_true]
  intro _
  refine loop_rule (fun (k : Nat) E st' => k ≤ c.length ∧ ∃ v ext, st' = st ++ ext ∧ E = [(3, v), (6, .sl false (c.map ndA)), (7, .sc (.int .i64 (c.length : Nat))), (8, .sc (.int .i64 (k : Nat)))] ∧ IsBuf st.length 95 7 (st ++ ext) v ((c.take k).map eventA)) (fun k => c.length - k)
    0 [(3, .sl true []), (6, .sl false (c.map ndA)), (7, .sc (.int .i64 (c.length : Nat))), (8, .sc (.int .i64 0))] (by simp only [SubE, g_cons, Nat.reduceEqDiff, Nat.succ_ne_zero, and_true, if_false, if_true]) ⟨Nat.zero_le _, _, [], by simp, rfl, .inl (by simp)⟩ ?_
  rintro k E st' ⟨hk, v, ext, rfl, rfl, hv⟩
  simp only [c14l3, k_call, k_seq, k_reg, k_some, o_nil, o_bin, g_cons, p_some, a_tmp, wp_seq, wp_reg, q_thenN, binA, binInts, binI, Nat.reduceEqDiff, if_false, if_true]
  rw [wp_cond (v := decide (k < c.length)) (by simp only [dec_lt, g_cons, a_tmp, Nat.reduceEqDiff, if_false, if_true])]
  refine ⟨fun h => ?_, fun h => ?_⟩
  · have hk1 : k < c.length := by simpa using h
    obtain ⟨l, ht, hmem⟩ := get_lt hk1
    have ht' : (c.map ndA)[k]? = some (ndA l) := get_map ht
    have hk2 : k < (c.map ndA).length := by simpa using hk1
    simp only [ndA] at ht'
    simp only [c14r1, hk2, ld_full (sz := 5) ht' rfl, k_call, k_seq, k_some, o_load, o_iaddr, o_alloc, g_cons, p_some, a_tmp, wp_seq, wp_reg, wp_skip, wp_block, q_thenN, evQ, slen, natA_nat, Nat.reduceEqDiff, if_false, if_true]
    rw [o_store (by simp only [g_cons, a_tmp, Nat.reduceEqDiff, if_false, if_true]; rfl)]
    simp only [c14r2, fillA, k_call, k_seq, k_reg, k_some, o_nil, o_mov, o_build, o_load, g_cons, p_some, p_none, a_tmp, a_i64_0, wp_reg, q_thenN, List.map_cons, List.map_nil, Nat.reduceEqDiff, Nat.reduceAdd, Option.map_some, ld_ref, get_last, set_last, AV.cells?, List.length_cons, List.length_nil, Nat.zero_add, partA, List.getElem?_cons_zero, List.drop_zero, List.drop_succ_cons, List.take_succ_cons, List.take_zero, putAt, List.nil_append, List.cons_append, List.drop_nil, List.append_nil, Nat.reduceLeDiff, Nat.le_refl, true_and, and_true, if_false, if_true]
    rw [o_mksl (by intro y hy; simp only [List.mem_singleton] at hy; subst hy; simp only [g_cons, a_tmp, Nat.reduceEqDiff, if_false, if_true]; rfl)]
    simp only [o_app, g_cons, p_some, a_tmp, List.map_cons, List.map_nil, Nat.reduceEqDiff, if_false, if_true]
    refine ⟨(by intro x hx; simp only [List.mem_singleton] at hx; subst hx; exact ⟨rfl, rfl⟩), ?_⟩
    rw [List.append_assoc]
    refine app_buf (cur := (c.take k).map eventA) (zs := [eventA l]) (by simpa only [k_call, k_seq, k_reg, k_some, k_box, k_tt, k_ff, k_tf, k_ft, k_un, o_nil, o_grdM, Bool.true_eq_false, o_mov, o_pick, o_build, o_load, o_nilck, o_bin, o_un, o_cvi, o_mkfn, o_faddr, o_slc, o_ext, o_iaddr, o_len, o_alloc, o_box, o_call, o_app, g_cons, p_some, p_none, a_tmp, a_fun, a_bool, a_nil, a_i64_0, a_i64_1, a_i64_2, a_i64_3, a_i64_5, a_i64_7, a_i64_8, a_i64_9, a_i64_10, a_i64_20, a_i64_60, a_i64_256, a_i64_400, a_i64_1000, a_i64_m1000, a_i64_m1, a_i64_2147483648, a_i64_m2147483648, a_i64_2147483647, a_u8_0, a_u8_1, a_u8_7, a_u8_10, a_u8_128, a_u64_0, a_u64_1, a_u64_7, a_u64_63, a_u64_128, a_u64_1048576, a_u64_4096, wp_seq, wp_reg, wp_skip, wp_ret, wp_exit, wp_block, wp_loop, q_thenN, q_thenR, q_thenE, q_blkN, q_blkR, q_blkE, q_nxtN, q_nxtR, q_nxtE, fn_call, evQ, binA, binInts, binI, slen, lenA, natA_nat, natA_0, argE, List.map_cons, List.map_nil, Nat.reduceEqDiff, Nat.reduceAdd, reduceIte, Option.map_some, Option.map_none, Option.isSome_some, Option.isSome_none, Nat.succ_ne_zero, ld_ref, get_last, get_last2, get_mid, get_mid1, get_mid2, set_last, set_last2, set_mid, AV.cells?, List.length_cons, List.length_nil, Nat.zero_add, partA, List.getElem?_cons_zero, List.getElem?_cons_succ, List.drop_zero, List.drop_succ_cons, List.take_succ_cons, List.take_zero, putAt, List.nil_append, List.cons_append, List.drop_nil, List.append_nil, Nat.reduceLeDiff, Nat.le_refl, true_and, and_true, Bool.false_eq_true, if_false, if_true] using hv.push) (by simp only [g_cons, a_tmp, Nat.reduceEqDiff, if_false, if_true]; rfl) (by intro x hx; simp only [List.mem_singleton] at hx; subst hx; exact ⟨rfl, rfl⟩) (fun x hx => nd_cells x (by obtain ⟨n, hn, rfl⟩ := List.mem_map.1 hx; exact List.mem_map_of_mem (List.mem_of_mem_take hn))) (by simp; omega) (by simp; omega) ?_
    intro v' ext' hv'
    simp only [wrap_succ (show k < 9223372036854775807 by omega), k_call, k_seq, k_reg, k_some, o_nil, o_mov, o_bin, g_cons, p_some, a_tmp, a_i64_1, wp_reg, q_thenN, q_blkN, q_nxtN, binA, binInts, binI, Nat.reduceEqDiff, true_and, if_false, if_true]
    refine ⟨_, (?_ : SubE [(3, _), (6, _), (7, _), (8, _)] _), k + 1, by omega, by omega, v', ext', rfl, rfl, ?_⟩
    · simp only [SubE, g_cons, Nat.reduceEqDiff, and_true, if_false, if_true]
    · rw [take_succ ht, List.map_append]; exact hv'
  · have hk0 : k = c.length := by have : ¬ k < c.length := by simpa using h
                                  omega
    subst hk0
    simp only [c14r4, k_seq, o_mov, o_call, g_cons, p_some, a_tmp, a_fun, a_nil, wp_seq, wp_reg, wp_exit, q_thenN, q_thenE, q_blkE, q_nxtE, fn_call, List.map_cons, List.map_nil, Nat.reduceEqDiff, if_false, if_true]
    rw [List.take_length] at hv
    refine call_buf [.sl true []] [] hv (fun x hx => by simp only [List.mem_singleton] at hx; subst hx; exact Still.sl) (fun x hx => by cases hx) (fun ext' => ?_)
    refine (call31 (bs := []) hsm (by simpa using hl)).mono ?_
    rintro x s ⟨rfl, rfl⟩
    simp only [k_call, k_seq, k_reg, o_nil, o_mov, g_cons, p_some, a_tmp, wp_ret, q_thenN, Nat.reduceEqDiff, List.nil_append, if_false, if_true]
    refine fin_tmp (.inr rfl) ?_
    simp only [g_cons, Nat.reduceEqDiff, if_false, if_true]
    refine fin_pre ⟨_, rfl⟩ ⟨?_, rfl⟩
    simp only [bA, frz_sl]
end Go.AW

/-
  The document's terms, clauses and nodes as the program's.
-/
namespace Go.AW
open Go Go.RowKit Go.Proofs
set_option linter.unusedVariables false
set_option linter.unusedSimpArgs false
set_option maxRecDepth 100000

theorem tm_pure {L : List Tm} : ∀ x ∈ tmAL L, x.cells.length = 2 := by
  intro x hx; rw [tmAL_map] at hx; obtain ⟨⟨F, M⟩, _, rfl⟩ := List.mem_map.1 hx; rfl

theorem call62 : ∀ (n : Nat) (t : Tm), SizeOf.sizeOf t < n → t.sm → ∀ {st : List AO}, ACall Tryz.prog 62 [tmA t] st (fun x s => x = tmA t ∧ s = st) := by
  intro n
  induction n with
  | zero => intro t h; omega
  | succ n ih =>
    rintro ⟨F, L⟩ hsz hsm st
    simp only [Tm.sm, smL_iff] at hsm
    obtain ⟨_, hLn, hL⟩ := hsm
    refine acall_t t62 (by simp) ?_
    simp only [c62, tmA, k_call, k_seq, k_reg, k_box, o_nil, o_alloc, o_box, g_cons, p_some, a_tmp, wp_seq, wp_reg, q_thenN, argE, AV.cells?, if_true]
    simp only [c62r0, fillA, k_call, k_some, o_build, o_load, o_faddr, o_alloc, g_cons, p_some, a_tmp, evQ, List.map_cons, List.map_nil, Nat.reduceEqDiff, Nat.reduceAdd, Option.map_some, Nat.succ_ne_zero, ld_ref, get_mid, AV.cells?, List.length_cons, List.length_nil, Nat.zero_add, partA, List.getElem?_cons_zero, List.drop_zero, List.drop_succ_cons, List.take_succ_cons, List.take_zero, List.nil_append, List.cons_append, Nat.reduceLeDiff, and_true, Bool.false_eq_true, if_false, if_true]
    rw [o_store (by simp only [g_cons, a_tmp, Nat.reduceEqDiff, Nat.succ_ne_zero, if_false, if_true]; rfl)]
    simp only [k_seq, k_reg, o_nil, o_mov, g_cons, p_some, p_none, a_tmp, a_i64_0, wp_seq, wp_reg, wp_block, wp_loop, q_thenN, Nat.reduceEqDiff, Nat.reduceAdd, Nat.succ_ne_zero, get_last, set_last, AV.cells?, List.length_cons, List.length_nil, Nat.zero_add, List.drop_succ_cons, List.take_zero, putAt, List.nil_append, List.drop_nil, List.append_nil, Nat.le_refl, true_and, and_true, if_false, if_true]
    refine loop_rule (fun (k : Nat) E st' => k ≤ L.length ∧ ∃ v ext, st' = st ++ [.cells [.sc (.int .i64 F), .sl false (tmAL L)]] ++ [.cells [.sc (.int .i64 0), .sl true []]] ++ [.cells [.sc (.int .i64 F), v]] ++ ext ∧
        E = [(1, .ref st.length 0), (2, .ref (st ++ [AO.cells [.sc (.int .i64 F), .sl false (tmAL L)]]).length 0), (3, .ref (st ++ [AO.cells [.sc (.int .i64 F), .sl false (tmAL L)]] ++ [AO.cells [.sc (.int .i64 0), .sl true []]]).length 0), (4, .sc (.int .i64 (k : Nat)))] ∧
        IsBuf (st.length + 3) 88 2 st' v ((L.take k).map tmA)) (fun k => L.length - k)
      0 [(1, .ref st.length 0), (2, .ref (st ++ [AO.cells [.sc (.int .i64 F), .sl false (tmAL L)]]).length 0), (3, .ref (st ++ [AO.cells [.sc (.int .i64 F), .sl false (tmAL L)]] ++ [AO.cells [.sc (.int .i64 0), .sl true []]]).length 0), (4, .sc (.int .i64 0))] (by simp only [SubE, g_cons, Nat.reduceEqDiff, Nat.succ_ne_zero, and_true, if_false, if_true]) ⟨Nat.zero_le _, .sl true [], [], by simp, rfl, .inl (by simp)⟩ ?_
    rintro k E st' ⟨hk, v, ext, rfl, rfl, hv⟩
    simp only [c62l4, c62r1, get_mid3, k_call, k_seq, k_reg, k_some, o_nil, o_mov, o_load, o_bin, o_faddr, o_len, g_cons, p_some, a_tmp, wp_seq, wp_reg, q_thenN, evQ, binA, binInts, binI, slen, lenA, Nat.reduceEqDiff, Nat.reduceAdd, ld_ref, List.length_cons, List.length_nil, Nat.zero_add, partA, List.getElem?_cons_zero, List.getElem?_cons_succ, List.drop_zero, List.drop_succ_cons, List.take_succ_cons, List.take_zero, Nat.le_refl, Bool.false_eq_true, if_false, if_true]
    intro hn
    have hn' : L.length ≤ 140737488355328 := by have := hn _ rfl; rwa [tmAL_map, List.length_map] at this
    rw [wp_cond (v := decide (k < L.length)) (by simp only [tmAL_map, List.length_map, dec_lt, g_cons, a_tmp, Nat.reduceEqDiff, if_false, if_true])]
    refine ⟨fun h => ?_, fun h => ?_⟩
    · have hk1 : k < L.length := by simpa using h
      obtain ⟨t, ht, hmem⟩ := get_lt hk1
      have ht' : (tmAL L)[k]? = some (tmA t) := by rw [tmAL_map]; exact get_map ht
      have hk2 : k < (tmAL L).length := by rw [tmAL_map, List.length_map]; exact hk1
      obtain ⟨G, M⟩ := t
      rw [tmA] at ht'
      simp only [c62d2, k_drw, wp_draw, d_faddr, k_seq, k_some, g_cons, p_some, a_tmp, wp_seq, wp_skip, wp_block, q_thenN, evQ, Nat.reduceEqDiff, Nat.zero_add, if_false, if_true]
      refine d_loadF (v := v) (by simp only [g_cons, a_tmp, Nat.reduceEqDiff, Nat.reduceAdd, ld_ref, get_mid, List.length_cons, List.length_nil, Nat.zero_add, partA, List.getElem?_cons_zero, List.getElem?_cons_succ, List.drop_zero, List.drop_succ_cons, List.take_succ_cons, List.take_zero, Nat.le_refl, Bool.false_eq_true, if_false, if_true]) ?_
      simp only [get_mid3, hk2, ld_full (sz := 2) ht' rfl, k_drw, d_mov, d_faddr, d_iaddr, d_load, k_some, g_cons, p_some, a_tmp, evQ, slen, natA_nat, Nat.reduceEqDiff, Nat.reduceAdd, ld_ref, List.length_cons, List.length_nil, Nat.zero_add, partA, List.getElem?_cons_zero, List.getElem?_cons_succ, List.drop_zero, List.drop_succ_cons, List.take_succ_cons, List.take_zero, Nat.le_refl, Bool.false_eq_true, if_false, if_true]
      refine d_call2 (x := tmA (.mk G M)) (st' := _) (by simp only [g_cons, a_tmp, a_fun, fn_call, List.map_cons, List.map_nil, Nat.reduceEqDiff, if_false, if_true]; have := ih (.mk G M) (by have := size_mem (F := F) hmem; omega) (hL _ hmem) (st := st ++ [.cells [.sc (.int .i64 F), .sl false (tmAL L)]] ++ [.cells [.sc (.int .i64 0), .sl true []]] ++ [.cells [.sc (.int .i64 F), v]] ++ ext); rw [tmA] at this; exact this) (fun p hp _ => ?_) ?_
      · simp only [List.mem_singleton] at hp; subst hp
        simp only [get_mid, List.getElem?_cons_zero, List.getElem?_cons_succ]
      rw [d_mksl rfl]
      refine ⟨by simp only [g_cons, p_some, a_tmp, List.map_cons, List.map_nil, Nat.reduceEqDiff, if_false, if_true]; intro x hx; simp only [List.mem_singleton] at hx; subst hx; exact ⟨rfl, rfl⟩, ?_⟩
      simp only [g_cons, p_some, a_tmp, List.map_cons, List.map_nil, Nat.reduceEqDiff, if_false, if_true]
      have hlen : (st ++ [AO.cells [AV.sc (Value.int IntKind.i64 F), AV.sl false (tmAL L)]] ++ [AO.cells [AV.sc (Value.int IntKind.i64 0), AV.sl true []]] ++ [AO.cells [AV.sc (Value.int IntKind.i64 F), v]]).length = st.length + 3 := by simp
      refine d_app (st0 := st ++ [.cells [.sc (.int .i64 F), .sl false (tmAL L)]] ++ [.cells [.sc (.int .i64 0), .sl true []]] ++ [.cells [.sc (.int .i64 F), v]]) (ext := ext) (cur := (L.take k).map tmA) (zs := [tmA (.mk G M)]) ?_ ?_ ?_ ?_ ?_ ?_ ?_ ?_
      · rw [hlen]; simpa only [k_call, k_seq, k_reg, k_some, k_box, k_tt, k_ff, k_tf, k_ft, k_un, o_nil, o_grdM, Bool.true_eq_false, o_mov, o_pick, o_build, o_load, o_nilck, o_bin, o_un, o_cvi, o_mkfn, o_faddr, o_slc, o_ext, o_iaddr, o_len, o_alloc, o_box, o_call, o_app, g_cons, p_some, p_none, a_tmp, a_fun, a_bool, a_nil, a_i64_0, a_i64_1, a_i64_2, a_i64_3, a_i64_5, a_i64_7, a_i64_8, a_i64_9, a_i64_10, a_i64_20, a_i64_60, a_i64_256, a_i64_400, a_i64_1000, a_i64_m1000, a_i64_m1, a_i64_2147483648, a_i64_m2147483648, a_i64_2147483647, a_u8_0, a_u8_1, a_u8_7, a_u8_10, a_u8_128, a_u64_0, a_u64_1, a_u64_7, a_u64_63, a_u64_128, a_u64_1048576, a_u64_4096, wp_seq, wp_reg, wp_skip, wp_ret, wp_exit, wp_block, wp_loop, q_thenN, q_thenR, q_thenE, q_blkN, q_blkR, q_blkE, q_nxtN, q_nxtR, q_nxtE, fn_call, evQ, binA, binInts, binI, slen, lenA, natA_nat, natA_0, argE, List.map_cons, List.map_nil, Nat.reduceEqDiff, Nat.reduceAdd, reduceIte, Option.map_some, Option.map_none, Option.isSome_some, Option.isSome_none, Nat.succ_ne_zero, ld_ref, get_last, get_last2, get_mid, get_mid1, get_mid2, set_last, set_last2, set_mid, AV.cells?, List.length_cons, List.length_nil, Nat.zero_add, partA, List.getElem?_cons_zero, List.getElem?_cons_succ, List.drop_zero, List.drop_succ_cons, List.take_succ_cons, List.take_zero, putAt, List.nil_append, List.cons_append, List.drop_nil, List.append_nil, Nat.reduceLeDiff, Nat.le_refl, true_and, and_true, Bool.false_eq_true, if_false, if_true] using hv
      · simp only [g_cons, a_tmp, Nat.reduceEqDiff, if_false, if_true]; rfl
      · exact (by intro x hx; simp only [List.mem_singleton] at hx; subst hx; exact ⟨rfl, rfl⟩)
      · exact fun x hx => tm_pure (L := L) x (by rw [tmAL_map]; obtain ⟨n, hn, rfl⟩ := List.mem_map.1 hx; exact List.mem_map_of_mem (List.mem_of_mem_take hn))
      · simp only [List.length_map, List.length_take, List.length_singleton]; omega
      · simp only [List.length_map, List.length_take, List.length_singleton]; omega
      · intro ext' p hp h0
        simp only [List.mem_singleton] at hp; subst hp
        simp at h0
      intro v' ext' hv'
      rw [hlen] at hv'
      simp only [k_drw, d_faddr, k_some, g_cons, p_some, a_tmp, evQ, List.map_cons, List.map_nil, Nat.reduceEqDiff, Nat.zero_add, if_false, if_true]
      refine d_store (j := (st ++ [AO.cells [AV.sc (Value.int IntKind.i64 F), AV.sl false (tmAL L)]] ++ [AO.cells [AV.sc (Value.int IntKind.i64 0), AV.sl true []]]).length) (off := 1) (vs := [v']) (cs := [.sc (.int .i64 F), v]) (by simp only [g_cons, a_tmp, Nat.reduceEqDiff, if_false, if_true]) (by simp only [g_cons, a_tmp, Nat.reduceEqDiff, AV.cells?, if_false, if_true]; exact hv'.cells) (by simp only [get_mid]) ⟨rfl, by simp⟩ (fun p hp h0 => ?_) ?_
      · simp at hp; subst hp; simp at h0
      simp only [c62r3, wrap_succ (show k < 9223372036854775807 by omega), d_nil, k_call, k_seq, k_reg, k_some, o_nil, o_mov, o_bin, g_cons, p_some, p_none, a_tmp, a_i64_1, wp_reg, q_thenN, q_blkN, q_nxtN, binA, binInts, binI, List.map_cons, List.map_nil, Nat.reduceEqDiff, Nat.reduceAdd, set_mid, List.length_cons, List.length_nil, Nat.zero_add, List.drop_succ_cons, List.take_succ_cons, List.take_zero, putAt, List.nil_append, List.cons_append, List.drop_nil, List.append_nil, true_and, if_false, if_true]
      refine ⟨_, (?_ : SubE [(1, _), (2, _), (3, _), (4, _)] _), k + 1, by omega, by omega, v', ext', rfl, rfl, ?_⟩
      · simp only [SubE, g_cons, Nat.reduceEqDiff, and_true, if_false, if_true]
      · have := hv'.set (j := (st ++ [AO.cells [AV.sc (Value.int IntKind.i64 F), AV.sl false (tmAL L)]] ++ [AO.cells [AV.sc (Value.int IntKind.i64 0), AV.sl true []]]).length) (o := .cells [.sc (.int .i64 F), v']) (by simp)
        rw [set_mid] at this
        rw [take_succ ht, List.map_append]; exact this
    · have hk0 : k = L.length := by have : ¬ k < L.length := by simpa using h
                                    omega
      subst hk0
      rw [List.take_length] at hv
      simp only [k_call, k_seq, k_some, o_load, g_cons, p_some, a_tmp, wp_seq, wp_reg, wp_exit, q_thenN, q_thenE, q_blkE, q_nxtE, Nat.reduceEqDiff, Nat.reduceAdd, ld_ref, get_mid, List.length_cons, List.length_nil, Nat.zero_add, partA, List.getElem?_cons_zero, List.drop_zero, List.take_succ_cons, List.take_zero, Nat.le_refl, if_false, if_true]
      rw [o_store (by simp only [g_cons, a_tmp, Nat.reduceEqDiff, if_false, if_true]; rfl)]
      simp only [get_t2, set_t2, k_seq, k_reg, o_nil, g_cons, p_none, a_tmp, wp_ret, q_thenN, Nat.reduceEqDiff, Nat.reduceAdd, AV.cells?, List.length_cons, List.length_nil, Nat.zero_add, List.drop_succ_cons, List.take_zero, putAt, List.nil_append, List.drop_nil, List.append_nil, Nat.le_refl, true_and, and_true, if_false, if_true]
      refine fin_cell (v := .agg [.sc (.int .i64 F), v]) (.inr rfl) ?_ ?_
      · simp only [get_t2, g_cons, Nat.reduceEqDiff, Nat.reduceAdd, ld_ref, List.length_cons, List.length_nil, Nat.zero_add, partA, List.getElem?_cons_zero, List.drop_zero, List.take_succ_cons, List.take_zero, Nat.le_refl, if_false, if_true]
      refine fin_preN ⟨_, by rw [List.append_assoc, List.append_assoc, List.append_assoc]⟩ ⟨?_, rfl⟩
      have h2 := hv.set (j := (st ++ [AO.cells [AV.sc (Value.int IntKind.i64 F), AV.sl false (tmAL L)]]).length) (o := .cells [.sc (.int .i64 F), v]) (by simp)
      rw [set_t2] at h2
      have h3 := h2.frzC (m := st.length) (by omega)
      rw [← tmAL_map] at h3
      simp only [AV.frz, AV.frzV, AV.nrmT, AV.nrm, List.map_cons, List.map_nil, h3, frzC_sc]
      rfl

theorem li_cells {c : List Li} : ∀ x ∈ c.map liA, x.cells.length = 5 := by
  intro x hx; obtain ⟨n, _, rfl⟩ := List.mem_map.1 hx; rfl
theorem nd_cells5 {c : List Nd} : ∀ x ∈ c.map ndA, x.cells.length = 5 := by
  intro x hx; obtain ⟨n, _, rfl⟩ := List.mem_map.1 hx; rfl

/-- soriteslaw11.Of -/
theorem call30 {st : List AO} {c : List Li} (hsm : ∀ l ∈ c, l.sm) (hlen : c.length ≤ 1048576) : ACall Tryz.prog 30 [.sl false (c.map liA)] st (fun x s => x = .sl false (c.map liA) ∧ s = st) := by
  refine acall_t t30 (by simp) ?_
  simp only [c30, k_seq, k_reg, o_nil, o_mov, p_some, a_nil, a_i64_0, wp_seq, wp_reg, wp_block, wp_loop, q_thenN, argE]
  refine loop_rule (fun (k : Nat) E st' => k ≤ c.length ∧ ∃ v ext, st' = st ++ ext ∧ E = [(0, .sl false (c.map liA)), (3, v), (4, .sc (.int .i64 (k : Nat)))] ∧ IsBuf st.length 90 5 (st ++ ext) v ((c.take k).map liA)) (fun k => c.length - k)
    0 [(0, .sl false (c.map liA)), (3, .sl true []), (4, .sc (.int .i64 0))] (by simp only [SubE, g_cons, Nat.reduceEqDiff, Nat.succ_ne_zero, and_true, if_false, if_true]) ⟨Nat.zero_le _, _, [], by simp, rfl, .inl (by simp)⟩ ?_
  rintro k E st' ⟨hk, v, ext, rfl, rfl, hv⟩
  simp only [c30l3, c30r0, k_call, k_seq, k_reg, k_some, o_nil, o_mov, o_bin, o_len, g_cons, p_some, a_tmp, wp_seq, wp_reg, q_thenN, binA, binInts, binI, slen, lenA, Nat.reduceEqDiff, Nat.succ_ne_zero, if_false, if_true]
  intro _
  rw [wp_cond (v := decide (k < c.length)) (by simp only [List.length_map, dec_lt, g_cons, a_tmp, Nat.reduceEqDiff, Nat.succ_ne_zero, if_false, if_true])]
  refine ⟨fun h => ?_, fun h => ?_⟩
  · have hk1 : k < c.length := by simpa using h
    obtain ⟨l, ht, hmem⟩ := get_lt hk1
    have ht' : (c.map liA)[k]? = some (liA l) := get_map ht
    have hk2 : k < (c.map liA).length := by simpa using hk1
    obtain ⟨neg, ⟨F, L⟩, ⟨G, M⟩⟩ := l
    obtain ⟨hs1, hs2⟩ := hsm _ hmem
    simp only [liA, Tm.F, Tm.L] at ht'
    have hF : ∀ s : List AO, loadA s false 1 (.ep (.sl false (c.map liA)) 5 k 0) = some (.sc (.bool neg)) := fun s => by rw [ld_cell (sz := 5) ht' rfl]; rfl
    have hA : ∀ s : List AO, loadA s true 2 (.ep (.sl false (c.map liA)) 5 k 1) = some (.agg [.sc (.int .i64 F), .sl false (tmAL L)]) := fun s => by rw [ld_sub (sz := 5) ht' rfl (by omega)]; rfl
    have hB : ∀ s : List AO, loadA s true 2 (.ep (.sl false (c.map liA)) 5 k 3) = some (.agg [.sc (.int .i64 G), .sl false (tmAL M)]) := fun s => by rw [ld_sub (sz := 5) ht' rfl (by omega)]; rfl
    have hA2 := fun s => call62 _ (.mk F L) (Nat.lt_succ_self _) hs1 (st := s)
    have hB2 := fun s => call62 _ (.mk G M) (Nat.lt_succ_self _) hs2 (st := s)
    simp only [tmA] at hA2 hB2
    simp only [c30d1, hk2, k_drw, wp_draw, d_mov, d_faddr, d_iaddr, k_seq, k_some, g_cons, p_some, a_tmp, wp_seq, wp_skip, wp_block, q_thenN, evQ, slen, natA_nat, Nat.reduceEqDiff, Nat.succ_ne_zero, Nat.zero_add, if_false, if_true]
    refine d_loadA (fun s => by simp only [g_cons, a_tmp, Nat.reduceEqDiff, Nat.succ_ne_zero, if_false, if_true]; exact hF s) ?_
    simp only [hk2, k_drw, d_mov, d_faddr, d_iaddr, d_load, k_some, g_cons, p_some, a_tmp, evQ, slen, natA_nat, Nat.reduceEqDiff, Nat.succ_ne_zero, Nat.zero_add, if_false, if_true]
    rw [hA (st ++ ext)]
    simp only [k_drw, k_some, p_some]
    refine d_call2 (st' := st ++ ext) (by simp only [g_cons, a_tmp, a_fun, fn_call, List.map_cons, List.map_nil, Nat.reduceEqDiff, Nat.succ_ne_zero, if_false, if_true]; exact hA2 _) (fun p hp => by cases hp) ?_
    simp only [hk2, k_drw, d_mov, d_faddr, d_iaddr, k_some, g_cons, p_some, a_tmp, evQ, slen, natA_nat, List.map_nil, Nat.reduceEqDiff, Nat.succ_ne_zero, Nat.zero_add, if_false, if_true]
    refine d_loadA (fun s => by simp only [g_cons, a_tmp, Nat.reduceEqDiff, Nat.succ_ne_zero, if_false, if_true]; exact hB s) ?_
    simp only [p_some]
    refine d_call2 (st' := st ++ ext) (by simp only [g_cons, a_tmp, a_fun, fn_call, List.map_cons, List.map_nil, Nat.reduceEqDiff, Nat.succ_ne_zero, if_false, if_true]; exact hB2 _) (fun p hp => by cases hp) ?_
    simp only [fillA, k_drw, d_build, k_some, g_cons, p_some, a_tmp, evQ, List.map_cons, List.map_nil, Nat.reduceEqDiff, Nat.reduceAdd, Option.map_some, Nat.succ_ne_zero, AV.cells?, List.length_cons, List.length_nil, Nat.zero_add, List.drop_zero, List.drop_succ_cons, List.take_succ_cons, List.take_zero, List.nil_append, List.cons_append, List.drop_nil, List.append_nil, Nat.reduceLeDiff, Nat.le_refl, and_true, if_false, if_true]
    rw [d_mksl rfl]
    refine ⟨by simp only [g_cons, a_tmp, List.map_cons, List.map_nil, Nat.reduceEqDiff, Nat.succ_ne_zero, if_false, if_true]; exact (by intro x hx; simp only [List.mem_singleton] at hx; subst hx; exact ⟨rfl, rfl⟩), ?_⟩
    simp only [g_cons, p_some, a_tmp, List.map_cons, List.map_nil, Nat.reduceEqDiff, Nat.succ_ne_zero, if_false, if_true]
    refine d_app (cur := (c.take k).map liA) (zs := [liA ⟨neg, .mk F L, .mk G M⟩]) ?_ ?_ ?_ ?_ ?_ ?_ ?_ ?_
    · simpa only [k_call, k_seq, k_reg, k_some, k_box, k_tt, k_ff, k_tf, k_ft, k_un, o_nil, o_grdM, Bool.true_eq_false, o_mov, o_pick, o_build, o_load, o_nilck, o_bin, o_un, o_cvi, o_mkfn, o_faddr, o_slc, o_ext, o_iaddr, o_len, o_alloc, o_box, o_call, o_app, g_cons, p_some, p_none, a_tmp, a_fun, a_bool, a_nil, a_i64_0, a_i64_1, a_i64_2, a_i64_3, a_i64_5, a_i64_7, a_i64_8, a_i64_9, a_i64_10, a_i64_20, a_i64_60, a_i64_256, a_i64_400, a_i64_1000, a_i64_m1000, a_i64_m1, a_i64_2147483648, a_i64_m2147483648, a_i64_2147483647, a_u8_0, a_u8_1, a_u8_7, a_u8_10, a_u8_128, a_u64_0, a_u64_1, a_u64_7, a_u64_63, a_u64_128, a_u64_1048576, a_u64_4096, wp_seq, wp_reg, wp_skip, wp_ret, wp_exit, wp_block, wp_loop, q_thenN, q_thenR, q_thenE, q_blkN, q_blkR, q_blkE, q_nxtN, q_nxtR, q_nxtE, fn_call, evQ, binA, binInts, binI, slen, lenA, natA_nat, natA_0, argE, List.map_cons, List.map_nil, Nat.reduceEqDiff, Nat.reduceAdd, reduceIte, Option.map_some, Option.map_none, Option.isSome_some, Option.isSome_none, Nat.succ_ne_zero, ld_ref, get_last, get_last2, get_mid, get_mid1, get_mid2, set_last, set_last2, set_mid, AV.cells?, List.length_cons, List.length_nil, Nat.zero_add, partA, List.getElem?_cons_zero, List.getElem?_cons_succ, List.drop_zero, List.drop_succ_cons, List.take_succ_cons, List.take_zero, putAt, List.nil_append, List.cons_append, List.drop_nil, List.append_nil, Nat.reduceLeDiff, Nat.le_refl, true_and, and_true, Bool.false_eq_true, if_false, if_true] using hv
    · simp only [g_cons, a_tmp, Nat.reduceEqDiff, Nat.succ_ne_zero, if_false, if_true]; rfl
    · exact (by intro x hx; simp only [List.mem_singleton] at hx; subst hx; exact ⟨rfl, rfl⟩)
    · exact fun x hx => li_cells x (by obtain ⟨n, hn, rfl⟩ := List.mem_map.1 hx; exact List.mem_map_of_mem (List.mem_of_mem_take hn))
    · simp only [List.length_map, List.length_take, List.length_singleton]; omega
    · simp only [List.length_map, List.length_take, List.length_singleton]; omega
    · intro _ p hp; cases hp
    intro v' ext' hv'
    simp only [c30r2, wrap_succ (show k < 9223372036854775807 by omega), d_nil, d_mov, k_call, k_seq, k_reg, k_some, o_nil, o_mov, o_bin, g_cons, p_some, a_tmp, a_i64_1, wp_reg, q_thenN, q_blkN, q_nxtN, binA, binInts, binI, List.map_nil, Nat.reduceEqDiff, Nat.succ_ne_zero, true_and, if_false, if_true]
    refine ⟨_, (?_ : SubE [(0, _), (3, _), (4, _)] _), k + 1, by omega, by omega, v', ext', rfl, rfl, ?_⟩
    · simp only [SubE, g_cons, Nat.reduceEqDiff, Nat.succ_ne_zero, and_true, if_false, if_true]
    · rw [take_succ ht, List.map_append]; exact hv'
  · have hk0 : k = c.length := by have : ¬ k < c.length := by simpa using h
                                  omega
    subst hk0
    rw [List.take_length] at hv
    simp only [k_seq, k_reg, o_nil, o_mov, g_cons, p_some, a_tmp, wp_seq, wp_reg, wp_ret, wp_exit, q_thenN, q_thenE, q_blkE, q_nxtE, Nat.reduceEqDiff, Nat.succ_ne_zero, if_false, if_true]
    refine fin_tmp (.inr rfl) ?_
    simp only [g_cons, Nat.reduceEqDiff, Nat.succ_ne_zero, if_false, if_true]
    exact fin_buf hv ⟨rfl, rfl⟩
def Nd.big (n : Nd) : Prop := n.c.length ≤ 1048576

/-- soriteslaw24.nodes -/
theorem call13 {st : List AO} {c : List Nd} (hsm : ∀ n ∈ c, n.sm ∧ n.big) (hlen : c.length ≤ 1048576) : ACall Tryz.prog 13 [.sl false (c.map ndA)] st (fun x s => x = .sl false (c.map ndA) ∧ s = st) := by
  refine acall_t t13 (by simp) ?_
  simp only [c13, k_seq, k_reg, o_nil, o_mov, p_some, a_nil, a_i64_0, wp_seq, wp_reg, wp_block, wp_loop, q_thenN, argE]
  refine loop_rule (fun (k : Nat) E st' => k ≤ c.length ∧ ∃ v ext, st' = st ++ ext ∧ E = [(0, .sl false (c.map ndA)), (3, v), (4, .sc (.int .i64 (k : Nat)))] ∧ IsBuf st.length 38 5 (st ++ ext) v ((c.take k).map ndA)) (fun k => c.length - k)
    0 [(0, .sl false (c.map ndA)), (3, .sl true []), (4, .sc (.int .i64 0))] (by simp only [SubE, g_cons, Nat.reduceEqDiff, Nat.succ_ne_zero, and_true, if_false, if_true]) ⟨Nat.zero_le _, _, [], by simp, rfl, .inl (by simp)⟩ ?_
  rintro k E st' ⟨hk, v, ext, rfl, rfl, hv⟩
  simp only [c13l3, c13r0, k_call, k_seq, k_reg, k_some, o_nil, o_mov, o_bin, o_len, g_cons, p_some, a_tmp, wp_seq, wp_reg, q_thenN, binA, binInts, binI, slen, lenA, Nat.reduceEqDiff, Nat.succ_ne_zero, if_false, if_true]
  intro _
  rw [wp_cond (v := decide (k < c.length)) (by simp only [List.length_map, dec_lt, g_cons, a_tmp, Nat.reduceEqDiff, Nat.succ_ne_zero, if_false, if_true])]
  refine ⟨fun h => ?_, fun h => ?_⟩
  · have hk1 : k < c.length := by simpa using h
    obtain ⟨l, ht, hmem⟩ := get_lt hk1
    have ht' : (c.map ndA)[k]? = some (ndA l) := get_map ht
    have hk2 : k < (c.map ndA).length := by simpa using hk1
    obtain ⟨⟨_, _, _, _, hs1⟩, hs2⟩ := hsm _ hmem
    simp only [ndA] at ht'
    have h0 : ∀ s : List AO, loadA s false 1 (.ep (.sl false (c.map ndA)) 5 k 0) = some (.sc (.int .i64 l.id)) := fun s => by rw [ld_cell (sz := 5) ht' rfl]; rfl
    have h1 : ∀ s : List AO, loadA s false 1 (.ep (.sl false (c.map ndA)) 5 k 1) = some (.sc (.int .i64 l.rule)) := fun s => by rw [ld_cell (sz := 5) ht' rfl]; rfl
    have h2 : ∀ s : List AO, loadA s false 1 (.ep (.sl false (c.map ndA)) 5 k 2) = some (.sc (.int .i64 l.p)) := fun s => by rw [ld_cell (sz := 5) ht' rfl]; rfl
    have h3 : ∀ s : List AO, loadA s false 1 (.ep (.sl false (c.map ndA)) 5 k 3) = some (.sc (.int .i64 l.q)) := fun s => by rw [ld_cell (sz := 5) ht' rfl]; rfl
    have h4 : ∀ s : List AO, loadA s false 1 (.ep (.sl false (c.map ndA)) 5 k 4) = some (.sl false (l.c.map liA)) := fun s => by rw [ld_cell (sz := 5) ht' rfl]; rfl
    simp only [c13d1, hk2, k_drw, wp_draw, d_mov, d_faddr, d_iaddr, k_seq, k_some, g_cons, p_some, a_tmp, wp_seq, wp_skip, wp_block, q_thenN, evQ, slen, natA_nat, Nat.reduceEqDiff, Nat.succ_ne_zero, Nat.zero_add, if_false, if_true]
    refine d_loadA (fun s => by simp only [g_cons, a_tmp, Nat.reduceEqDiff, Nat.succ_ne_zero, if_false, if_true]; exact h0 s) ?_
    simp only [hk2, k_drw, d_mov, d_faddr, d_iaddr, k_some, g_cons, p_some, a_tmp, evQ, slen, natA_nat, Nat.reduceEqDiff, Nat.succ_ne_zero, Nat.zero_add, if_false, if_true]
    refine d_loadA (fun s => by simp only [g_cons, a_tmp, Nat.reduceEqDiff, Nat.succ_ne_zero, if_false, if_true]; exact h1 s) ?_
    simp only [hk2, k_drw, d_mov, d_faddr, d_iaddr, k_some, g_cons, p_some, a_tmp, evQ, slen, natA_nat, Nat.reduceEqDiff, Nat.succ_ne_zero, Nat.zero_add, if_false, if_true]
    refine d_loadA (fun s => by simp only [g_cons, a_tmp, Nat.reduceEqDiff, Nat.succ_ne_zero, if_false, if_true]; exact h2 s) ?_
    simp only [hk2, k_drw, d_mov, d_faddr, d_iaddr, k_some, g_cons, p_some, a_tmp, evQ, slen, natA_nat, Nat.reduceEqDiff, Nat.succ_ne_zero, Nat.zero_add, if_false, if_true]
    refine d_loadA (fun s => by simp only [g_cons, a_tmp, Nat.reduceEqDiff, Nat.succ_ne_zero, if_false, if_true]; exact h3 s) ?_
    simp only [hk2, k_drw, d_mov, d_faddr, d_iaddr, d_load, k_some, g_cons, p_some, a_tmp, evQ, slen, natA_nat, Nat.reduceEqDiff, Nat.succ_ne_zero, Nat.zero_add, if_false, if_true]
    rw [h4 (st ++ ext)]
    simp only [k_drw, k_some, p_some]
    refine d_call2 (st' := st ++ ext) (by simp only [g_cons, a_tmp, a_fun, fn_call, List.map_cons, List.map_nil, Nat.reduceEqDiff, Nat.succ_ne_zero, if_false, if_true]; exact call30 hs1 hs2) (fun p hp => by cases hp) ?_
    simp only [fillA, k_drw, d_build, k_some, g_cons, p_some, a_tmp, evQ, List.map_cons, List.map_nil, Nat.reduceEqDiff, Nat.reduceAdd, Option.map_some, Nat.succ_ne_zero, AV.cells?, List.length_cons, List.length_nil, Nat.zero_add, List.drop_zero, List.drop_succ_cons, List.take_succ_cons, List.take_zero, List.nil_append, List.cons_append, List.drop_nil, List.append_nil, Nat.reduceLeDiff, Nat.le_refl, and_true, if_false, if_true]
    rw [d_mksl rfl]
    refine ⟨by simp only [g_cons, a_tmp, List.map_cons, List.map_nil, Nat.reduceEqDiff, Nat.succ_ne_zero, if_false, if_true]; exact (by intro x hx; simp only [List.mem_singleton] at hx; subst hx; exact ⟨rfl, rfl⟩), ?_⟩
    simp only [g_cons, p_some, a_tmp, List.map_cons, List.map_nil, Nat.reduceEqDiff, Nat.succ_ne_zero, if_false, if_true]
    refine d_app (cur := (c.take k).map ndA) (zs := [ndA l]) ?_ ?_ ?_ ?_ ?_ ?_ ?_ ?_
    · simpa only [k_call, k_seq, k_reg, k_some, k_box, k_tt, k_ff, k_tf, k_ft, k_un, o_nil, o_grdM, Bool.true_eq_false, o_mov, o_pick, o_build, o_load, o_nilck, o_bin, o_un, o_cvi, o_mkfn, o_faddr, o_slc, o_ext, o_iaddr, o_len, o_alloc, o_box, o_call, o_app, g_cons, p_some, p_none, a_tmp, a_fun, a_bool, a_nil, a_i64_0, a_i64_1, a_i64_2, a_i64_3, a_i64_5, a_i64_7, a_i64_8, a_i64_9, a_i64_10, a_i64_20, a_i64_60, a_i64_256, a_i64_400, a_i64_1000, a_i64_m1000, a_i64_m1, a_i64_2147483648, a_i64_m2147483648, a_i64_2147483647, a_u8_0, a_u8_1, a_u8_7, a_u8_10, a_u8_128, a_u64_0, a_u64_1, a_u64_7, a_u64_63, a_u64_128, a_u64_1048576, a_u64_4096, wp_seq, wp_reg, wp_skip, wp_ret, wp_exit, wp_block, wp_loop, q_thenN, q_thenR, q_thenE, q_blkN, q_blkR, q_blkE, q_nxtN, q_nxtR, q_nxtE, fn_call, evQ, binA, binInts, binI, slen, lenA, natA_nat, natA_0, argE, List.map_cons, List.map_nil, Nat.reduceEqDiff, Nat.reduceAdd, reduceIte, Option.map_some, Option.map_none, Option.isSome_some, Option.isSome_none, Nat.succ_ne_zero, ld_ref, get_last, get_last2, get_mid, get_mid1, get_mid2, set_last, set_last2, set_mid, AV.cells?, List.length_cons, List.length_nil, Nat.zero_add, partA, List.getElem?_cons_zero, List.getElem?_cons_succ, List.drop_zero, List.drop_succ_cons, List.take_succ_cons, List.take_zero, putAt, List.nil_append, List.cons_append, List.drop_nil, List.append_nil, Nat.reduceLeDiff, Nat.le_refl, true_and, and_true, Bool.false_eq_true, if_false, if_true] using hv
    · simp only [g_cons, a_tmp, Nat.reduceEqDiff, Nat.succ_ne_zero, if_false, if_true]; rfl
    · exact (by intro x hx; simp only [List.mem_singleton] at hx; subst hx; exact ⟨rfl, rfl⟩)
    · exact fun x hx => nd_cells5 x (by obtain ⟨n, hn, rfl⟩ := List.mem_map.1 hx; exact List.mem_map_of_mem (List.mem_of_mem_take hn))
    · simp only [List.length_map, List.length_take, List.length_singleton]; omega
    · simp only [List.length_map, List.length_take, List.length_singleton]; omega
    · intro _ p hp; cases hp
    intro v' ext' hv'
    simp only [c13r2, wrap_succ (show k < 9223372036854775807 by omega), d_nil, d_mov, k_call, k_seq, k_reg, k_some, o_nil, o_mov, o_bin, g_cons, p_some, a_tmp, a_i64_1, wp_reg, q_thenN, q_blkN, q_nxtN, binA, binInts, binI, List.map_nil, Nat.reduceEqDiff, Nat.succ_ne_zero, true_and, if_false, if_true]
    refine ⟨_, (?_ : SubE [(0, _), (3, _), (4, _)] _), k + 1, by omega, by omega, v', ext', rfl, rfl, ?_⟩
    · simp only [SubE, g_cons, Nat.reduceEqDiff, Nat.succ_ne_zero, and_true, if_false, if_true]
    · rw [take_succ ht, List.map_append]; exact hv'
  · have hk0 : k = c.length := by have : ¬ k < c.length := by simpa using h
                                  omega
    subst hk0
    rw [List.take_length] at hv
    simp only [k_seq, k_reg, o_nil, o_mov, g_cons, p_some, a_tmp, wp_seq, wp_reg, wp_ret, wp_exit, q_thenN, q_thenE, q_blkE, q_nxtE, Nat.reduceEqDiff, Nat.succ_ne_zero, if_false, if_true]
    refine fin_tmp (.inr rfl) ?_
    simp only [g_cons, Nat.reduceEqDiff, Nat.succ_ne_zero, if_false, if_true]
    exact fin_buf hv ⟨rfl, rfl⟩

end Go.AW

/-
  What is small enough to be looked at.
-/
namespace Go.AW
open Go Go.RowKit Go.Proofs
set_option linter.unusedVariables false
set_option linter.unusedSimpArgs false
set_option maxRecDepth 100000

mutual
def Tm.size : Tm → Nat
  | .mk _ L => Tm.sizeL L + 1
def Tm.sizeL : List Tm → Nat
  | [] => 0
  | t :: r => t.size + Tm.sizeL r
end
mutual
def Tm.fine : Int → Tm → Prop
  | d, .mk F L => (-1000 ≤ F ∧ F ≤ 1000) ∧ L.length ≤ 20 ∧ 0 ≤ d ∧ Tm.fineL (d - 1) L
def Tm.fineL : Int → List Tm → Prop
  | _, [] => True
  | d, t :: r => Tm.fine d t ∧ Tm.fineL d r
end
theorem fineL_iff {d : Int} : ∀ {L : List Tm}, Tm.fineL d L ↔ ∀ t ∈ L, t.fine d
  | [] => by simp [Tm.fineL]
  | t :: r => by simp [Tm.fineL, fineL_iff]
theorem sizeL_app : ∀ {L M : List Tm}, Tm.sizeL (L ++ M) = Tm.sizeL L + Tm.sizeL M
  | [], M => by simp [Tm.sizeL]
  | t :: r, M => by simp only [List.cons_append, Tm.sizeL, sizeL_app]; omega

set_option maxHeartbeats 4000000 in
theorem call48 : ∀ (n : Nat) (t : Tm), SizeOf.sizeOf t < n → ∀ {st : List AO} {most deep : Int}, 0 ≤ most → most ≤ 1000 → -1 ≤ deep → deep ≤ 1000 →
    ACall Tryz.prog 48 [tmA t, .sc (.int .i64 most), .sc (.int .i64 deep)] st (fun x s => s = st ∧ ∃ r : Int, x = .sc (.int .i64 r) ∧ -1 ≤ r ∧ r ≤ most ∧ (0 ≤ r → t.fine deep ∧ (t.size : Int) + r ≤ most)) := by
  intro n
  induction n with
  | zero => intro t h; omega
  | succ n ih =>
    rintro ⟨F, L⟩ hsz st most deep hm1 hm2 hd1 hd2
    have hlen : (tmAL L).length = L.length := by rw [tmAL_map, List.length_map]
    refine acall_t t48 (by simp) ?_
    have bad : ∀ (E : Env) (st' : List AO), (∃ ext, st' = st ++ ext) → FinQ [.tmp 6] st (fun x s => s = st ∧ ∃ r : Int, x = .sc (.int .i64 r) ∧ -1 ≤ r ∧ r ≤ most ∧ (0 ≤ r → (Tm.mk F L).fine deep ∧ ((Tm.mk F L).size : Int) + r ≤ most)) .ret ((6, .sc (.int .i64 (-1))) :: E) [] st' := by
      intro E st' hp
      refine fin_tmp (.inr rfl) (fin_pre hp ⟨rfl, -1, ?_, by omega, by omega, fun h => by omega⟩)
      simp only [g_cons, if_true, frz_sc]
    simp only [c48, tmA, k_call, k_seq, k_reg, k_box, o_nil, o_mov, o_box, g_cons, p_some, a_tmp, a_i64_0, wp_seq, wp_reg, q_thenN, argE, Nat.reduceEqDiff, Nat.reduceAdd, AV.cells?, Nat.zero_add, if_false, if_true]
    by_cases h1 : deep < 0
    · have e1 : decide (deep < 0) = true := by simpa using h1
      simp only [c48r0, e1, k_call, k_seq, k_reg, k_some, k_tf, o_nil, o_grdM, o_mov, o_pick, o_bin, g_cons, p_some, a_tmp, a_bool, a_i64_0, q_thenN, binA, binInts, binI, Nat.reduceEqDiff, Nat.succ_ne_zero, if_false, if_true]
      rw [wp_cond (v := true) (by simp only [g_cons, a_tmp, Nat.reduceEqDiff, Nat.succ_ne_zero, if_false, if_true])]
      refine ⟨fun _ => ?_, (fun h => by cases h)⟩
      simp only [k_seq, k_reg, o_nil, o_mov, p_some, a_i64_m1, wp_seq, wp_reg, wp_ret, q_thenN, q_thenR]
      exact bad _ _ ⟨_, rfl⟩
    have e1 : decide (deep < 0) = false := by simpa using h1
    by_cases h2 : F < -1000
    · have e2 : decide (F < -1000) = true := by simpa using h2
      simp only [c48r0, e1, e2, k_call, k_seq, k_reg, k_some, k_ff, k_tf, o_nil, o_grdM, o_mov, o_pick, o_load, o_bin, o_faddr, g_cons, p_some, a_tmp, a_bool, a_i64_0, a_i64_m1000, q_thenN, evQ, binA, binInts, binI, Nat.reduceEqDiff, Nat.reduceAdd, Nat.succ_ne_zero, ld_ref, get_last, List.length_cons, List.length_nil, Nat.zero_add, partA, List.getElem?_cons_zero, List.drop_zero, List.take_succ_cons, List.take_zero, Nat.reduceLeDiff, Bool.false_eq_true, if_false, if_true]
      rw [wp_cond (v := true) (by simp only [g_cons, a_tmp, Nat.reduceEqDiff, Nat.succ_ne_zero, if_false, if_true])]
      refine ⟨fun _ => ?_, (fun h => by cases h)⟩
      simp only [k_seq, k_reg, o_nil, o_mov, p_some, a_i64_m1, wp_seq, wp_reg, wp_ret, q_thenN, q_thenR]
      exact bad _ _ ⟨_, rfl⟩
    have e2 : decide (F < -1000) = false := by simpa using h2
    by_cases h3 : F > 1000
    · have e3 : decide (F > 1000) = true := by simpa using h3
      simp only [c48r0, e1, e2, e3, k_call, k_seq, k_reg, k_some, k_ff, k_tf, o_nil, o_grdM, o_mov, o_pick, o_load, o_bin, o_faddr, g_cons, p_some, a_tmp, a_bool, a_i64_0, a_i64_1000, a_i64_m1000, q_thenN, evQ, binA, binInts, binI, Nat.reduceEqDiff, Nat.reduceAdd, Nat.succ_ne_zero, ld_ref, get_last, List.length_cons, List.length_nil, Nat.zero_add, partA, List.getElem?_cons_zero, List.drop_zero, List.take_succ_cons, List.take_zero, Nat.reduceLeDiff, Bool.false_eq_true, if_false, if_true]
      rw [wp_cond (v := true) (by simp only [g_cons, a_tmp, Nat.reduceEqDiff, Nat.succ_ne_zero, if_false, if_true])]
      refine ⟨fun _ => ?_, (fun h => by cases h)⟩
      simp only [k_seq, k_reg, o_nil, o_mov, p_some, a_i64_m1, wp_seq, wp_reg, wp_ret, q_thenN, q_thenR]
      exact bad _ _ ⟨_, rfl⟩
    have e3 : decide (F > 1000) = false := by simpa using h3
    by_cases h4 : L.length > 20
    · have e4 : decide ((L.length : Int) > 20) = true := by simp; omega
      simp only [c48r0, e1, e2, e3, e4, hlen, k_call, k_seq, k_reg, k_some, k_ff, o_nil, o_grdM, o_mov, o_pick, o_load, o_bin, o_faddr, o_len, g_cons, p_some, a_tmp, a_bool, a_i64_0, a_i64_20, a_i64_1000, a_i64_m1000, q_thenN, evQ, binA, binInts, binI, slen, lenA, Nat.reduceEqDiff, Nat.reduceAdd, Nat.succ_ne_zero, ld_ref, get_last, List.length_cons, List.length_nil, Nat.zero_add, partA, List.getElem?_cons_zero, List.getElem?_cons_succ, List.drop_zero, List.drop_succ_cons, List.take_succ_cons, List.take_zero, Nat.reduceLeDiff, Nat.le_refl, Bool.false_eq_true, if_false, if_true]
      intro _
      rw [wp_cond (v := true) (by simp only [g_cons, a_tmp, Nat.reduceEqDiff, Nat.succ_ne_zero, if_false, if_true])]
      refine ⟨fun _ => ?_, (fun h => by cases h)⟩
      simp only [k_seq, k_reg, o_nil, o_mov, p_some, a_i64_m1, wp_seq, wp_reg, wp_ret, q_thenN, q_thenR]
      exact bad _ _ ⟨_, rfl⟩
    have e4 : decide ((L.length : Int) > 20) = false := by simp; omega
    simp only [c48r0, e1, e2, e3, e4, hlen, k_call, k_seq, k_reg, k_some, k_ff, o_nil, o_grdM, o_mov, o_pick, o_load, o_bin, o_faddr, o_len, g_cons, p_some, a_tmp, a_bool, a_i64_0, a_i64_20, a_i64_1000, a_i64_m1000, q_thenN, evQ, binA, binInts, binI, slen, lenA, Nat.reduceEqDiff, Nat.reduceAdd, Nat.succ_ne_zero, ld_ref, get_last, List.length_cons, List.length_nil, Nat.zero_add, partA, List.getElem?_cons_zero, List.getElem?_cons_succ, List.drop_zero, List.drop_succ_cons, List.take_succ_cons, List.take_zero, Nat.reduceLeDiff, Nat.le_refl, Bool.false_eq_true, if_false, if_true]
    intro _
    rw [wp_cond (v := false) (by simp only [g_cons, a_tmp, Nat.reduceEqDiff, Nat.succ_ne_zero, if_false, if_true])]
    refine ⟨(fun h => by cases h), fun _ => ?_⟩
    simp only [c48r1, k_call, k_seq, k_reg, k_some, o_nil, o_mov, o_bin, g_cons, p_some, a_tmp, a_i64_0, a_i64_1, wp_seq, wp_reg, wp_skip, wp_block, wp_loop, q_thenN, binA, binInts, binI, Nat.reduceEqDiff, Nat.succ_ne_zero, if_false, if_true]
    rw [wrap_i64 (by omega) (by omega)]
    refine loop_rule (fun (a : Nat × Int) E st' => a.1 ≤ L.length ∧ st' = st ++ [.cells [.sc (.int .i64 F), .sl false (tmAL L)]] ∧ E = [(1, .sc (.int .i64 a.2)), (2, .sc (.int .i64 deep)), (3, .ref st.length 0), (7, .sc (.int .i64 (a.1 : Nat)))] ∧
        -1 ≤ a.2 ∧ a.2 ≤ most - 1 ∧ (0 ≤ a.2 → (∀ t ∈ L.take a.1, t.fine (deep - 1)) ∧ (Tm.sizeL (L.take a.1) : Int) + a.2 ≤ most - 1)) (fun a => L.length - a.1)
      (0, most - 1) [(1, .sc (.int .i64 (most - 1))), (2, .sc (.int .i64 deep)), (3, .ref st.length 0), (7, .sc (.int .i64 0))] (by simp only [SubE, g_cons, Nat.reduceEqDiff, Nat.succ_ne_zero, and_true, if_false, if_true]) ⟨Nat.zero_le _, rfl, rfl, by simp only; omega, by simp only; omega, fun h => ⟨by simp, by simp [Tm.sizeL]⟩⟩ ?_
    rintro ⟨k, m⟩ E st' ⟨hk, rfl, rfl, hm3, hm4, hm5⟩
    simp only at hk hm3 hm4 hm5 ⊢
    have fin : (k < L.length → m < 0) → ∀ E : Env, E.get 1 = .sc (.int .i64 m) → FinQ [.tmp 6] st (fun x s => s = st ∧ ∃ r : Int, x = .sc (.int .i64 r) ∧ -1 ≤ r ∧ r ≤ most ∧ (0 ≤ r → (Tm.mk F L).fine deep ∧ ((Tm.mk F L).size : Int) + r ≤ most)) .ret ((6, .sc (.int .i64 m)) :: E) [] (st ++ [.cells [.sc (.int .i64 F), .sl false (tmAL L)]]) := by
      intro hx E hE
      refine fin_tmp (.inr rfl) (fin_pre ⟨_, rfl⟩ ⟨rfl, m, ?_, by omega, by omega, fun h => ?_⟩)
      · simp only [g_cons, if_true, frz_sc]
      · have hkL : k = L.length := by
          rcases Nat.lt_or_ge k L.length with h' | h'
          · have := hx h'; omega
          · omega
        subst hkL
        obtain ⟨q1, q2⟩ := hm5 h
        rw [List.take_length] at q1 q2
        refine ⟨⟨⟨by omega, by omega⟩, by omega, by omega, fineL_iff.2 q1⟩, ?_⟩
        simp only [Tm.size]
        omega
    by_cases hk1 : k < L.length
    · have f1 : decide ((k : Int) < (L.length : Int)) = true := by simpa using hk1
      by_cases hm : 0 ≤ m
      · have f2 : decide (m ≥ 0) = true := by simpa using hm
        obtain ⟨t, ht, hmem⟩ := get_lt hk1
        have ht' : (tmAL L)[k]? = some (tmA t) := by rw [tmAL_map]; exact get_map ht
        have hsz' := size_mem (F := F) hmem
        have hcall := ih t (by omega) (st := st ++ [.cells [.sc (.int .i64 F), .sl false (tmAL L)]]) (most := m) (deep := deep - 1) hm (by omega) (by omega) (by omega)
        obtain ⟨G, M⟩ := t
        rw [tmA] at ht' hcall
        simp only [c48l5, c48r2, hlen, f1, f2, k_call, k_seq, k_reg, k_some, k_tt, o_nil, o_grdM, o_mov, o_pick, o_load, o_bin, o_faddr, o_len, g_cons, p_some, a_tmp, a_bool, a_i64_0, wp_seq, wp_reg, q_thenN, evQ, binA, binInts, binI, slen, lenA, Nat.reduceEqDiff, Nat.reduceAdd, ld_ref, get_last, List.length_cons, List.length_nil, Nat.zero_add, partA, List.getElem?_cons_zero, List.getElem?_cons_succ, List.drop_zero, List.drop_succ_cons, List.take_succ_cons, List.take_zero, Nat.le_refl, Bool.false_eq_true, if_false, if_true]
        intro _
        rw [wp_cond (v := true) (by simp only [g_cons, a_tmp, Nat.reduceEqDiff, if_false, if_true])]
        refine ⟨fun _ => ?_, (fun h => by cases h)⟩
        simp only [c48r3, hlen, hk1, ld_full (sz := 2) ht' rfl, k_call, k_seq, k_some, o_mov, o_load, o_bin, o_faddr, o_iaddr, o_call, g_cons, p_some, a_tmp, a_fun, a_i64_1, wp_seq, wp_reg, wp_skip, wp_block, q_thenN, fn_call, evQ, binA, binInts, binI, slen, natA_nat, List.map_cons, List.map_nil, Nat.reduceEqDiff, Nat.reduceAdd, ld_ref, get_last, List.length_cons, List.length_nil, Nat.zero_add, partA, List.getElem?_cons_zero, List.getElem?_cons_succ, List.drop_zero, List.drop_succ_cons, List.take_succ_cons, List.take_zero, Nat.le_refl, Bool.false_eq_true, if_false, if_true]
        rw [wrap_i64 (by omega) (by omega)]
        refine hcall.mono ?_
        rintro x s ⟨rfl, r, rfl, r1, r2, r3⟩
        simp only [c48r4, wrap_succ (show k < 9223372036854775807 by omega), k_call, k_seq, k_reg, k_some, o_nil, o_mov, o_bin, g_cons, p_some, a_tmp, a_i64_1, wp_reg, q_thenN, q_blkN, q_nxtN, binA, binInts, binI, Nat.reduceEqDiff, true_and, if_false, if_true]
        refine ⟨_, (?_ : SubE [(1, _), (2, _), (3, _), (7, _)] _), (k + 1, r), by simp only; omega, by simp only; omega, rfl, r1, by simp only; omega, fun h => ?_⟩
        · simp only [SubE, g_cons, Nat.reduceEqDiff, and_true, if_false, if_true]
        · obtain ⟨g1, g2⟩ := r3 h
          obtain ⟨g3, g4⟩ := hm5 hm
          refine ⟨?_, ?_⟩
          · intro t ht2
            rw [take_succ ht] at ht2
            rcases List.mem_append.1 ht2 with h | h
            · exact g3 t h
            · simp only [List.mem_singleton] at h; subst h; exact g1
          · rw [take_succ ht, sizeL_app]
            simp only [Tm.sizeL] at g2 ⊢
            omega
      · have f2 : decide (m ≥ 0) = false := by simpa using hm
        simp only [c48l5, c48r2, hlen, f1, f2, k_call, k_seq, k_reg, k_some, k_tt, o_nil, o_grdM, o_mov, o_pick, o_load, o_bin, o_faddr, o_len, g_cons, p_some, a_tmp, a_bool, a_i64_0, wp_seq, wp_reg, q_thenN, evQ, binA, binInts, binI, slen, lenA, Nat.reduceEqDiff, Nat.reduceAdd, ld_ref, get_last, List.length_cons, List.length_nil, Nat.zero_add, partA, List.getElem?_cons_zero, List.getElem?_cons_succ, List.drop_zero, List.drop_succ_cons, List.take_succ_cons, List.take_zero, Nat.le_refl, Bool.false_eq_true, if_false, if_true]
        intro _
        rw [wp_cond (v := false) (by simp only [g_cons, a_tmp, Nat.reduceEqDiff, if_false, if_true])]
        refine ⟨(fun h => by cases h), fun _ => ?_⟩
        simp only [k_seq, k_reg, o_nil, o_mov, g_cons, p_some, a_tmp, wp_seq, wp_reg, wp_ret, wp_exit, q_thenN, q_thenE, q_blkE, q_nxtE, Nat.reduceEqDiff, if_false, if_true]
        exact fin (fun _ => by omega) _ (by simp only [g_cons, Nat.reduceEqDiff, if_false, if_true])
    · have f1 : decide ((k : Int) < (L.length : Int)) = false := by simp; omega
      simp only [c48l5, c48r2, hlen, f1, k_call, k_seq, k_reg, k_some, k_ft, o_nil, o_grdM, o_mov, o_pick, o_load, o_bin, o_faddr, o_len, g_cons, p_some, a_tmp, a_bool, wp_seq, wp_reg, q_thenN, evQ, binA, binInts, binI, slen, lenA, Nat.reduceEqDiff, Nat.reduceAdd, ld_ref, get_last, List.length_cons, List.length_nil, Nat.zero_add, partA, List.getElem?_cons_zero, List.getElem?_cons_succ, List.drop_zero, List.drop_succ_cons, List.take_succ_cons, List.take_zero, Nat.le_refl, Bool.false_eq_true, if_false, if_true]
      intro _
      rw [wp_cond (v := false) (by simp only [g_cons, a_tmp, Nat.reduceEqDiff, if_false, if_true])]
      refine ⟨(fun h => by cases h), fun _ => ?_⟩
      simp only [k_seq, k_reg, o_nil, o_mov, g_cons, p_some, a_tmp, wp_seq, wp_reg, wp_ret, wp_exit, q_thenN, q_thenE, q_blkE, q_nxtE, Nat.reduceEqDiff, if_false, if_true]
      exact fin (fun h => absurd h hk1) _ (by simp only [g_cons, Nat.reduceEqDiff, if_false, if_true])
end Go.AW
