/-
  How compiled code is walked.
-/
import Derived.Test.YtkpnemmniepchaaGreatC1
/-
  Steps of code, one lemma for each operation.
-/
namespace Go.AW
open Go Go.RowKit Go.Proofs
set_option linter.unusedVariables false
set_option linter.unusedSimpArgs false
set_option maxRecDepth 100000

section
variable {P : Program} {N : Nat} {rd : Option Nat} {mk : List Nat} {r : List AI} {en : Env} {st : List AO} {K : Env → List AO → Prop} {d : Option Nat}

/-- What comes behind a call (not looked into until the call is done). -/
def CallK (P : Program) (N : Nat) (rd : Option Nat) (mk : List Nat) (d : Option Nat) (r : List AI) (en : Env) (K : Env → List AO → Prop) (x : AV) (st : List AO) : Prop := opsC P N rd mk r (putE en d x) st K
theorem k_call {x : AV} : CallK P N rd mk d r en K x st = opsC P N rd mk r (putE en d x) st K := (rfl)
def SeqK (P : Program) (N : Nat) (rd : Option Nat) (b : AC) (Q : AQ) (en : Env) (mk : List Nat) (st : List AO) : Prop := wpC P N rd b en mk st Q
theorem k_seq {b : AC} {Q : AQ} : SeqK P N rd b Q en mk st = wpC P N rd b en mk st Q := (rfl)
def RegK (mk : List Nat) (Q : AQ) (en : Env) (st : List AO) : Prop := Q .normal en mk st
theorem k_reg {Q : AQ} : RegK mk Q en st = Q .normal en mk st := (rfl)
/-- What comes of a value, if there is one. -/
def optK (o : Option AV) (F : AV → List AO → Prop) (st : List AO) : Prop := match o with
  | some v => F v st
  | none => False
theorem k_some {v : AV} {F : AV → List AO → Prop} : optK (some v) F st = F v st := (rfl)
def boxK (o : Option (List AV)) (F : AV → List AO → Prop) (st : List AO) : Prop := match o with
  | some cs => F (.ref st.length 0) (st ++ [.cells cs])
  | none => False
theorem k_box {cs : List AV} {F : AV → List AO → Prop} : boxK (some cs) F st = F (.ref st.length 0) (st ++ [.cells cs]) := (rfl)
/-- A guarded operation (not looked into until its guard is known). -/
def GrdS (v : AV) (w : Bool) (P : Program) (N : Nat) (rd : Option Nat) (mk : List Nat) (d : Option Nat) (op : AOp) (r : List AI) (en : Env) (st : List AO) (K : Env → List AO → Prop) : Prop := match v with
  | .sc (.bool b) => if b = w then opsC P N rd mk (⟨d, none, op⟩ :: r) en st K else opsC P N rd mk r (putE en d (.tup [])) st K
  | .tup [] => opsC P N rd mk r (putE en d (.tup [])) st K
  | _ => False
theorem k_tt {op : AOp} : GrdS (.sc (.bool true)) true P N rd mk d op r en st K = opsC P N rd mk (⟨d, none, op⟩ :: r) en st K := by simp only [GrdS, if_true]
theorem k_ff {op : AOp} : GrdS (.sc (.bool false)) false P N rd mk d op r en st K = opsC P N rd mk (⟨d, none, op⟩ :: r) en st K := by simp only [GrdS, if_true]
theorem k_tf {op : AOp} : GrdS (.sc (.bool true)) false P N rd mk d op r en st K = opsC P N rd mk r (putE en d (.tup [])) st K := by simp only [GrdS, Bool.true_eq_false, if_false]
theorem k_ft {op : AOp} : GrdS (.sc (.bool false)) true P N rd mk d op r en st K = opsC P N rd mk r (putE en d (.tup [])) st K := by simp only [GrdS, Bool.false_eq_true, if_false]
theorem k_un {w : Bool} {op : AOp} : GrdS (.tup []) w P N rd mk d op r en st K = opsC P N rd mk r (putE en d (.tup [])) st K := (rfl)

theorem o_nil : opsC P N rd mk [] en st K = K en st := (rfl)
theorem o_mov {x : Operand} : opsC P N rd mk (⟨d, none, .mov x⟩ :: r) en st K = opsC P N rd mk r (putE en d (opA en x)) st K := (rfl)
theorem o_pick {c a b : Operand} : opsC P N rd mk (⟨d, none, .pick c a b⟩ :: r) en st K = optK (match opA en c with
    | .sc (.bool b') => some (if b' then opA en a else opA en b)
    | _ => none) (CallK P N rd mk d r en K) st := (rfl)
theorem o_build {zs : List AV} {ps : List (Nat × Nat × Operand)} : opsC P N rd mk (⟨d, none, .build zs ps⟩ :: r) en st K = optK ((fillA zs (ps.map fun (o, s, x) => (o, s, opA en x))).map AV.agg) (CallK P N rd mk d r en K) st := (rfl)
theorem o_load {a : Bool} {n : Nat} {x : Operand} : opsC P N rd mk (⟨d, none, .load a n x⟩ :: r) en st K = optK (loadA st a n (opA en x)) (CallK P N rd mk d r en K) st := (rfl)
theorem o_nilck {x : Operand} : opsC P N rd mk (⟨d, none, .nilck x⟩ :: r) en st K = optK (evQ (.nilck x) en st) (CallK P N rd mk d r en K) st := (rfl)
theorem o_bin {op : BinOp} {td : TypeDesc} {x y : Operand} : opsC P N rd mk (⟨d, none, .bin op td x y⟩ :: r) en st K = optK (binA op td (opA en x) (opA en y)) (CallK P N rd mk d r en K) st := (rfl)
theorem o_un {op : UnOp} {x : Operand} : opsC P N rd mk (⟨d, none, .un op x⟩ :: r) en st K = optK (evQ (.un op x) en st) (CallK P N rd mk d r en K) st := (rfl)
theorem o_cvi {k : IntKind} {x : Operand} : opsC P N rd mk (⟨d, none, .cvi k x⟩ :: r) en st K = optK (evQ (.cvi k x) en st) (CallK P N rd mk d r en K) st := (rfl)
theorem o_mkfn {f : Nat} {a b : List Operand} : opsC P N rd mk (⟨d, none, .mkfn f a b⟩ :: r) en st K = opsC P N rd mk r (putE en d (.fn f a.length ((a ++ b).map (opA en)))) st K := (rfl)
theorem o_faddr {o : Nat} {x : Operand} : opsC P N rd mk (⟨d, none, .faddr o x⟩ :: r) en st K = optK (evQ (.faddr o x) en st) (CallK P N rd mk d r en K) st := (rfl)
theorem o_slc {sz : Nat} {x : Operand} {lo hi mx : Option Operand} : opsC P N rd mk (⟨d, none, .slc sz x lo hi mx⟩ :: r) en st K = optK (evQ (.slc sz x lo hi mx) en st) (CallK P N rd mk d r en K) st := (rfl)
theorem o_ext {x : Operand} {i : Nat} : opsC P N rd mk (⟨d, none, .ext x i⟩ :: r) en st K = optK (evQ (.ext x i) en st) (CallK P N rd mk d r en K) st := (rfl)
theorem o_iaddr {sz : Nat} {x i : Operand} : opsC P N rd mk (⟨d, none, .iaddr sz x i⟩ :: r) en st K = optK (evQ (.iaddr sz x i) en st) (CallK P N rd mk d r en K) st := (rfl)
theorem o_len {x : Operand} : opsC P N rd mk (⟨d, none, .len false x⟩ :: r) en st K = ((∀ n, slen (opA en x) = some n → n ≤ 140737488355328) → optK (lenA false (opA en x)) (CallK P N rd mk d r en K) st) := by
  have h : opsC P N rd mk (⟨d, none, .len false x⟩ :: r) en st K = match lenA false (opA en x) with
    | some v => (∀ n, slen (opA en x) = some n → n ≤ 140737488355328) → opsC P N rd mk r (putE en d v) st K
    | none => False := rfl
  rw [h]
  simp only [lenA]
  cases hs : slen (opA en x) <;> simp [optK, CallK]
theorem o_alloc {cs : List AV} : opsC P N rd mk (⟨d, none, .alloc cs⟩ :: r) en st K = opsC P N rd mk r (putE en d (.ref st.length 0)) (st ++ [.cells cs]) K := (rfl)
theorem o_box {x : Operand} : opsC P N rd mk (⟨d, none, .box x⟩ :: r) en st K = boxK ((opA en x).cells?) (CallK P N rd mk d r en K) st := (rfl)
theorem o_call {f : Operand} {args : List Operand} : opsC P N rd mk (⟨d, none, .call f args⟩ :: r) en st K = AFn P (opA en f) (args.map (opA en)) st (CallK P N rd mk d r en K) := (rfl)
theorem o_app {e sz b : Nat} {x y : Operand} : opsC P N rd mk (⟨d, none, .app e sz b x y⟩ :: r) en st K = opC P N rd mk (.app e sz b x y) en st (CallK P N rd mk d r en K) := (rfl)
/-- A store into cells. -/
theorem o_store {n : Nat} {x y : Operand} {j off : Nat} (h : opA en x = .ref j off) : opsC P N rd mk (⟨d, none, .store n x y⟩ :: r) en st K = match (opA en y).cells? with
  | some vs => match st[j]? with
    | some (.cells cs) => (vs.length = n ∧ off + n ≤ cs.length) ∧ opsC P N rd mk r (putE en d .any) (st.set j (.cells (putAt cs off vs))) K
    | _ => False
  | none => False := by
  have hp : preO (.store n x y) en st = (en, st) := by simp [preO, AOp.elems, h]
  simp only [opsC, hp, opC, h]
  cases (opA en y).cells? <;> rfl
/-- A slice, laid: its parts hold no slice under construction. -/
theorem o_mksl {e sz : Nat} {ps : List Operand} (h : ∀ y ∈ ps, (opA en y).accs = []) : opsC P N rd mk (⟨d, none, .mksl e sz ps⟩ :: r) en st K = ((∀ x ∈ ps.map (opA en), x.nrm.pure1 = true ∧ x.nrm.cells.length = sz) ∧ opsC P N rd mk r (putE en d (.sl true (ps.map fun y => (opA en y).nrm))) st K) := by
  have hp : preO (.mksl e sz ps) en st = (en, st) := by
    have : (ps.flatMap fun y => (opA en y).accs) = [] := List.flatMap_eq_nil_iff.2 h
    simp [preO, AOp.elems, this]
  simp only [opsC, hp, opC]
theorem o_grd {t : Nat} {w b : Bool} {op : AOp} (h : en.get t = .sc (.bool b)) : opsC P N rd mk (⟨d, some (t, w), op⟩ :: r) en st K = if b = w then opsC P N rd mk (⟨d, none, op⟩ :: r) en st K else opsC P N rd mk r (putE en d (.tup [])) st K := by
  simp only [opsC, h]
theorem o_grdM {t : Nat} {w : Bool} {op : AOp} : opsC P N rd mk (⟨d, some (t, w), op⟩ :: r) en st K = GrdS (en.get t) w P N rd mk d op r en st K := (rfl)
theorem o_grd0 {t : Nat} {w : Bool} {op : AOp} (h : en.get t = .tup []) : opsC P N rd mk (⟨d, some (t, w), op⟩ :: r) en st K = opsC P N rd mk r (putE en d (.tup [])) st K := by
  simp only [opsC, h]

theorem g_cons {k i : Nat} {v : AV} {r : Env} : Env.get ((k, v) :: r) i = if i = k then v else Env.get r i := (rfl)
theorem p_some {k : Nat} {v : AV} : putE en (some k) v = (k, v) :: en := (rfl)
theorem p_none {v : AV} : putE en none v = en := (rfl)
theorem a_tmp {t : Nat} : opA en (.tmp t) = en.get t := (rfl)
theorem a_fun {t : Nat} : opA en (.func t) = .fn t 0 [] := (rfl)
theorem a_i64_0 : opA en (.const (.int .i64 0)) = .sc (.int .i64 0) := (rfl)
theorem a_i64_1 : opA en (.const (.int .i64 1)) = .sc (.int .i64 1) := (rfl)
theorem a_i64_2 : opA en (.const (.int .i64 2)) = .sc (.int .i64 2) := (rfl)
theorem a_i64_3 : opA en (.const (.int .i64 3)) = .sc (.int .i64 3) := (rfl)
theorem a_i64_5 : opA en (.const (.int .i64 5)) = .sc (.int .i64 5) := (rfl)
theorem a_i64_7 : opA en (.const (.int .i64 7)) = .sc (.int .i64 7) := (rfl)
theorem a_i64_8 : opA en (.const (.int .i64 8)) = .sc (.int .i64 8) := (rfl)
theorem a_i64_9 : opA en (.const (.int .i64 9)) = .sc (.int .i64 9) := (rfl)
theorem a_i64_10 : opA en (.const (.int .i64 10)) = .sc (.int .i64 10) := (rfl)
theorem a_i64_20 : opA en (.const (.int .i64 20)) = .sc (.int .i64 20) := (rfl)
theorem a_i64_60 : opA en (.const (.int .i64 60)) = .sc (.int .i64 60) := (rfl)
theorem a_i64_256 : opA en (.const (.int .i64 256)) = .sc (.int .i64 256) := (rfl)
theorem a_i64_400 : opA en (.const (.int .i64 400)) = .sc (.int .i64 400) := (rfl)
theorem a_i64_1000 : opA en (.const (.int .i64 1000)) = .sc (.int .i64 1000) := (rfl)
theorem a_i64_m1000 : opA en (.const (.int .i64 (-1000))) = .sc (.int .i64 (-1000)) := (rfl)
theorem a_i64_m1 : opA en (.const (.int .i64 (-1))) = .sc (.int .i64 (-1)) := (rfl)
theorem a_i64_2147483648 : opA en (.const (.int .i64 2147483648)) = .sc (.int .i64 2147483648) := (rfl)
theorem a_i64_m2147483648 : opA en (.const (.int .i64 (-2147483648))) = .sc (.int .i64 (-2147483648)) := (rfl)
theorem a_i64_2147483647 : opA en (.const (.int .i64 2147483647)) = .sc (.int .i64 2147483647) := (rfl)
theorem a_u8_0 : opA en (.const (.int .u8 0)) = .sc (.int .u8 0) := (rfl)
theorem a_u8_1 : opA en (.const (.int .u8 1)) = .sc (.int .u8 1) := (rfl)
theorem a_u8_7 : opA en (.const (.int .u8 7)) = .sc (.int .u8 7) := (rfl)
theorem a_u8_10 : opA en (.const (.int .u8 10)) = .sc (.int .u8 10) := (rfl)
theorem a_u8_128 : opA en (.const (.int .u8 128)) = .sc (.int .u8 128) := (rfl)
theorem a_u64_0 : opA en (.const (.int .u64 0)) = .sc (.int .u64 0) := (rfl)
theorem a_u64_1 : opA en (.const (.int .u64 1)) = .sc (.int .u64 1) := (rfl)
theorem a_u64_7 : opA en (.const (.int .u64 7)) = .sc (.int .u64 7) := (rfl)
theorem a_u64_63 : opA en (.const (.int .u64 63)) = .sc (.int .u64 63) := (rfl)
theorem a_u64_128 : opA en (.const (.int .u64 128)) = .sc (.int .u64 128) := (rfl)
theorem a_u64_1048576 : opA en (.const (.int .u64 1048576)) = .sc (.int .u64 1048576) := (rfl)
theorem a_u64_4096 : opA en (.const (.int .u64 4096)) = .sc (.int .u64 4096) := (rfl)
theorem a_bool {b : Bool} : opA en (.const (.bool b)) = .sc (.bool b) := (rfl)
theorem a_nil : opA en (.const (.slice none 0 0)) = .sl true [] := (rfl)
theorem fn_call {f : Nat} {args : List AV} {R : AV → List AO → Prop} : AFn P (.fn f 0 []) args st R = ACall P f args st R := by simp [AFn]

/-- Flags of slices may be forgotten. -/
theorem ACall.nrm {f : Nat} {args : List AV} {R : AV → List AO → Prop} (h : ACall P f (args.map AV.nrm) st R) : ACall P f args st R := by
  intro w ρ D vs hW hV
  refine h w ρ D vs hW ⟨by simpa using hV.1, fun i x v hx hv => ?_⟩
  simp only [List.getElem?_map] at hx
  cases hc : args[i]? with
  | none => rw [hc] at hx; cases hx
  | some y => rw [hc] at hx; injection hx with hx; subst hx; exact (hV.2 i y v hc hv).nrm
theorem ACall.of {f : Nat} {args : List AV} {R R' : AV → List AO → Prop} (h : ACall P f args st R) (hr : ∀ x s, R x s → R' x s) : ACall P f args st R' := h.mono hr

theorem wp_seq {a b : AC} {Q : AQ} : wpC P N rd (.seq a b) en mk st Q = wpC P N rd a en mk st (thenQ (SeqK P N rd b Q) Q) := (rfl)
theorem wp_reg {ops : List AI} {Q : AQ} : wpC P N rd (.reg ops) en mk st Q = opsC P N rd mk ops en st (RegK mk Q) := (rfl)
theorem wp_skip {Q : AQ} : wpC P N rd .skip en mk st Q = Q .normal en mk st := (rfl)
theorem wp_ret {Q : AQ} : wpC P N rd .ret en mk st Q = Q .ret en mk st := (rfl)
theorem wp_exit {i : Nat} {Q : AQ} : wpC P N rd (.exit i) en mk st Q = Q (.exit i) en mk st := (rfl)
theorem wp_block {i : Nat} {b : AC} {Q : AQ} : wpC P N rd (.block i b) en mk st Q = wpC P N rd b en mk st (blockQ i Q) := (rfl)
theorem wp_loop {b : AC} {Q : AQ} : wpC P N rd (.loop b) en mk st Q = LoopW P N rd b en mk st Q := (rfl)
theorem wp_cond {x : Operand} {a b : AC} {Q : AQ} {v : Bool} (h : opA en x = .sc (.bool v)) : wpC P N rd (.cond x a b) en mk st Q = ((v = true → wpC P N rd a en mk st Q) ∧ (v = false → wpC P N rd b en mk st Q)) := by
  simp only [wpC, h]
theorem q_thenN {f : Env → List Nat → List AO → Prop} {Q : AQ} : thenQ f Q .normal en mk st = f en mk st := (rfl)
theorem q_thenR {f : Env → List Nat → List AO → Prop} {Q : AQ} : thenQ f Q .ret en mk st = Q .ret en mk st := (rfl)
theorem q_thenE {f : Env → List Nat → List AO → Prop} {Q : AQ} {i : Nat} : thenQ f Q (.exit i) en mk st = Q (.exit i) en mk st := (rfl)
theorem q_blkN {i : Nat} {Q : AQ} : blockQ i Q .normal en mk st = Q .normal en mk st := (rfl)
theorem q_blkR {i : Nat} {Q : AQ} : blockQ i Q .ret en mk st = Q .ret en mk st := (rfl)
theorem q_blkE {i j : Nat} {Q : AQ} : blockQ i Q (.exit j) en mk st = if j = i then Q .normal en mk st else Q (.exit j) en mk st := (rfl)
end

section
variable {N : Nat} {st : List AO}
/-- A function of the program, from its code. -/
theorem acall_t {f : Nat} {ac : AC} {rv : List RV} {args : List AV} {R : AV → List AO → Prop} (h : tabFn f = some (N, ac, rv)) (hl : args.length ≤ N) (hw : wpC Tryz.prog N none ac (argE 0 args) [] st (FinQ rv st R)) : ACall Tryz.prog f args st R := by
  obtain ⟨fn, cd, h1, h2, h3, h4, h5, h6⟩ := tabOk.fn f N ac rv h
  exact acall_of h1 h2 h3 h4 hl h5 h6 hw

theorem fin_tmp {t : Nat} {R : AV → List AO → Prop} {x : AX} {en : Env} {st' : List AO} (hx : x = .normal ∨ x = .ret) (h : Fin st R (en.get t) st') : FinQ [.tmp t] st R x en [] st' := by
  rcases hx with rfl | rfl <;> exact h

/-- At the end all that was laid is dropped; what was there lies as it lay. -/
theorem fin_drop {R : AV → List AO → Prop} {x : AV} {ext : List AO} (h : R (x.frz (st ++ ext) st.length).nrmT st) : Fin st R x (st ++ ext) := by
  refine ⟨st.length, Nat.le_refl _, by simp, .inr fun i o hi ho => .inl ?_, .inr ?_⟩
  · rwa [List.getElem?_append_left hi] at ho
  · simpa using h
theorem fin_drop0 {R : AV → List AO → Prop} {x : AV} (h : R (x.frz st st.length).nrmT st) : Fin st R x st := by
  have := fin_drop (st := st) (R := R) (x := x) (ext := []) (by simpa using h)
  simpa using this
end

theorem wrap_i64 {n : Int} (h1 : -9223372036854775808 ≤ n) (h2 : n ≤ 9223372036854775807) : IntKind.wrap .i64 n = n := by
  have e : (2 : Int) ^ 64 = 18446744073709551616 := by decide
  have e2 : (2 : Int) ^ (64 - 1) = 9223372036854775808 := by decide
  simp only [IntKind.wrap, IntKind.bits, IntKind.signed, e, e2, Bool.true_and, decide_eq_true_eq]
  split <;> omega
theorem wrap_u64 {n : Int} (h1 : 0 ≤ n) (h2 : n ≤ 18446744073709551615) : IntKind.wrap .u64 n = n := by
  have e : (2 : Int) ^ 64 = 18446744073709551616 := by decide
  simp only [IntKind.wrap, IntKind.bits, IntKind.signed, e, Bool.false_and, Bool.false_eq_true, if_false]
  omega
theorem wrap_u8 {n : Int} (h1 : 0 ≤ n) (h2 : n ≤ 255) : IntKind.wrap .u8 n = n := by
  have e : (2 : Int) ^ 8 = 256 := by decide
  simp only [IntKind.wrap, IntKind.bits, IntKind.signed, e, Bool.false_and, Bool.false_eq_true, if_false]
  omega
theorem wrap_u8m {n : Int} : IntKind.wrap .u8 n = n % 256 := by
  have e : (2 : Int) ^ 8 = 256 := by decide
  simp only [IntKind.wrap, IntKind.bits, IntKind.signed, e, Bool.false_and, Bool.false_eq_true, if_false]
theorem wrap_u64m {n : Int} : IntKind.wrap .u64 n = n % 18446744073709551616 := by
  have e : (2 : Int) ^ 64 = 18446744073709551616 := by decide
  simp only [IntKind.wrap, IntKind.bits, IntKind.signed, e, Bool.false_and, Bool.false_eq_true, if_false]
end Go.AW

/-
  Loops, round by round; slices that are built up.
-/
namespace Go.AW
open Go Go.RowKit Go.Proofs
set_option linter.unusedVariables false
set_option linter.unusedSimpArgs false
set_option maxRecDepth 100000

section
variable {P : Program} {N : Nat} {rd : Option Nat} {mk : List Nat} {en : Env} {st : List AO}

/-- What a round ends with. -/
def NextQ (R : Env → List Nat → List AO → Prop) (Q : AQ) : AQ := fun x en' mk' st' => match x with
  | .normal => ∃ E, SubE E en' ∧ R E mk' st'
  | x => Q x en' mk' st'
theorem q_nxtN {R : Env → List Nat → List AO → Prop} {Q : AQ} : NextQ R Q .normal en mk st = ∃ E, SubE E en ∧ R E mk st := rfl
theorem q_nxtR {R : Env → List Nat → List AO → Prop} {Q : AQ} : NextQ R Q .ret en mk st = Q .ret en mk st := rfl
theorem q_nxtE {R : Env → List Nat → List AO → Prop} {Q : AQ} {i : Nat} : NextQ R Q (.exit i) en mk st = Q (.exit i) en mk st := rfl

/-- **A loop**: what holds ahead of each round, and what falls. -/
theorem loop_rule {α : Type} (I : α → Env → List AO → Prop) (μ : α → Nat) {b : AC} {Q : AQ} (a0 : α) (E0 : Env) (hE0 : SubE E0 en) (h0 : I a0 E0 st)
    (step : ∀ a E st, I a E st → wpC P N rd b E mk st (NextQ (fun E' mk' st' => mk' = mk ∧ ∃ a', μ a' < μ a ∧ I a' E' st') Q)) : LoopW P N rd b en mk st Q := by
  intro c hc F n a w ρ D hF hW hE hM
  refine wpIn_loop_rounds (μ a0 + 1) ?_
  have key : ∀ m k E a' w' st' ρ' D', μ k < m → I k E st' → WR ⟨w', ρ', D', st'⟩ → ER ⟨w', ρ', D', st'⟩ E N a'.tmps → MR ρ' mk a'.defers → Ext ⟨w, ρ, D, st⟩ ⟨w', ρ', D', st'⟩ →
      Code.roundsIn F n P c (fun e a w' => APost N ⟨w, ρ, D, st⟩ Q e a w') m a' w' := by
    intro m
    induction m with
    | zero => intro k E a' w' st' ρ' D' h; omega
    | succ m ih =>
      intro k E a' w' st' ρ' D' hk hI h1 h2 h3 h4
      rw [roundsIn_succ]
      refine wpIn_mono (wpC_ok hc (step k E st' hI) F n a' w' ρ' D' (FR.ext h4 hF) h1 h2 h3) ?_
      rintro e a'' w'' ⟨x, en2, mk2, st2, ρ2, D2, rfl, q1, q2, q3, q4, q5⟩
      cases x with
      | normal =>
        obtain ⟨E', hE', rfl, k', hlt, hI'⟩ := q5
        exact ih k' E' a'' w'' st2 ρ2 D2 (by omega) hI' q1 (ER.sub hE'.sub q2) q3 (h4.trans q4)
      | exit id => exact ⟨.exit id, en2, mk2, st2, ρ2, D2, rfl, q1, q2, q3, h4.trans q4, q5⟩
      | ret => exact ⟨.ret, en2, mk2, st2, ρ2, D2, rfl, q1, q2, q3, h4.trans q4, q5⟩
  exact key (μ a0 + 1) a0 E0 a w st ρ D (by omega) h0 hW (ER.sub hE0.sub hE) hM (.refl _)

/-- A slice that is built up: nothing was put behind it yet, or it is an object's from n0 on. -/
def IsBuf (n0 e sz : Nat) (st : List AO) (v : AV) (cur : List AV) : Prop := v = .sl true cur ∨ ∃ g, n0 ≤ g ∧ v = .acc g cur.length ∧ st[g]? = some (.acc e sz cur)

theorem IsBuf.mono {n0 e sz : Nat} {st st' : List AO} {v : AV} {cur : List AV} (h : IsBuf n0 e sz st v cur) (hs : ∀ g, n0 ≤ g → g < st.length → st'[g]? = st[g]?) : IsBuf n0 e sz st' v cur := by
  rcases h with h | ⟨g, h1, h2, h3⟩
  · exact .inl h
  · exact .inr ⟨g, h1, h2, (hs g h1 (List.getElem?_eq_some_iff.1 h3).1).trans h3⟩

theorem app_buf {st0 ext : List AO} {e sz b : Nat} {x y : Operand} {K : AV → List AO → Prop} {cur zs : List AV} (hx : IsBuf st0.length e sz (st0 ++ ext) (opA en x) cur) (hy : rdA (st0 ++ ext) (opA en y) = some zs)
    (hz : ∀ y ∈ zs, y.pure1 = true ∧ y.cells.length = sz) (hc : ∀ y ∈ cur, y.cells.length = sz) (hb : (cur.length + zs.length) * b ≤ 140737488355328) (hn : cur.length + zs.length ≤ 140737488355328)
    (hK : ∀ v ext', IsBuf st0.length e sz (st0 ++ ext') v (cur ++ zs) → K v (st0 ++ ext')) : opC P N rd mk (.app e sz b x y) en (st0 ++ ext) K := by
  simp only [opC, hy]
  refine ⟨hz, ?_⟩
  rcases hx with hx | ⟨g, h1, h2, h3⟩
  · rw [hx]
    cases zs with
    | nil => exact hK _ _ (.inl (by simp))
    | cons z zs =>
      refine ⟨⟨hc, hb, hn⟩, ?_⟩
      rw [List.append_assoc]
      refine hK (.acc (st0 ++ ext).length (cur.length + (zs.length + 1))) (ext ++ [.acc e sz (cur ++ z :: zs)]) (.inr ⟨(st0 ++ ext).length, by simp, ?_, ?_⟩)
      · simp
      · rw [← List.append_assoc]; simp
  · rw [h2]
    simp only [h3]
    have hg := (List.getElem?_eq_some_iff.1 h3).1
    refine ⟨⟨trivial, trivial, trivial, hb, hn⟩, ?_⟩
    have e1 : (st0 ++ ext).set g (.acc e sz (cur ++ zs)) = st0 ++ ext.set (g - st0.length) (.acc e sz (cur ++ zs)) := by
      rw [List.set_append_right _ _ h1]
    rw [e1]
    refine hK _ _ (.inr ⟨g, h1, by simp, ?_⟩)
    rw [← e1, List.getElem?_set_self hg]

/-- At the end: what was built up, frozen. -/
theorem fin_buf {st ext : List AO} {R : AV → List AO → Prop} {x : AV} {cur : List AV} {e sz : Nat} (hx : IsBuf st.length e sz (st ++ ext) x cur) (h : R (.sl false cur) st) : Fin st R x (st ++ ext) := by
  refine fin_drop ?_
  rcases hx with rfl | ⟨g, h1, rfl, h2⟩
  · exact h
  · have : ¬ g < st.length := by omega
    simp only [AV.frz, AV.frzV, AV.frzC, this, if_false, h2, if_true]
    exact h

theorem fin_keep {st ext : List AO} {R : AV → List AO → Prop} {x : AV} (h : R (x.frz (st ++ ext) st.length) st) : Fin st R x (st ++ ext) := by
  refine ⟨st.length, Nat.le_refl _, by simp, .inr fun i o hi ho => .inl ?_, .inl ?_⟩
  · rwa [List.getElem?_append_left hi] at ho
  · simpa using h
theorem fin_keep0 {st : List AO} {R : AV → List AO → Prop} {x : AV} (h : R (x.frz st st.length) st) : Fin st R x st := by
  have := fin_keep (st := st) (R := R) (x := x) (ext := []) (by simpa using h)
  simpa using this

theorem ok_sl {m : Nat} {b : Bool} {xs : List AV} : (AV.sl b xs).ok m = true := by simp [AV.ok]
theorem frz_sc {st : List AO} {m : Nat} {v : Value} : (AV.sc v).frz st m = .sc v := by simp [AV.frz, AV.frzV, AV.frzC, AV.ok]
theorem frz_sl {st : List AO} {m : Nat} {b : Bool} {xs : List AV} : (AV.sl b xs).frz st m = .sl b xs := by simp [AV.frz, AV.frzV, AV.frzC]

/-- What a slice's bounds yield. -/
theorem shr_ok {k : IntKind} {a : Int} {b : Nat} (h : b ≤ k.bits) : shI .shr k a b = some (.sc (.int k (a.fdiv (2 ^ b)))) := by
  have : ¬ ((b : Int) < 0) := by omega
  simp only [shI, this, if_false, Int.toNat_natCast, Nat.min_eq_left h]
theorem shl_ok {k : IntKind} {a : Int} {b : Nat} (h : b ≤ k.bits) : shI .shl k a b = some (.sc (.int k (k.wrap (a * 2 ^ b)))) := by
  have : ¬ ((b : Int) < 0) := by omega
  simp only [shI, this, if_false, Int.toNat_natCast, Nat.min_eq_left h]
theorem slcA_clip {xs : List AV} {b : Bool} : slcA xs b none (some (.sc (.int .i64 xs.length))) (some (.sc (.int .i64 xs.length))) = some (.sl true xs) := by
  have h0 : (0 : Int) ≤ (xs.length : Int) := by omega
  simp [slcA, natA, h0]
theorem slcA_from {xs : List AV} {b : Bool} {n : Nat} (h : n ≤ xs.length) : slcA xs b (some (.sc (.int .i64 n))) none none = some (.sl (b && true) (xs.drop n)) := by
  have h0 : (0 : Int) ≤ (n : Int) := by omega
  cases b <;> simp [slcA, natA, h0, h]
end
end Go.AW

/-
  Looking at objects and at slices' elements.
-/
namespace Go.AW
open Go Go.RowKit Go.Proofs
set_option linter.unusedVariables false
set_option linter.unusedSimpArgs false
set_option maxRecDepth 100000

theorem natA_nat {k : IntKind} {n : Nat} : natA (.sc (.int k (n : Int))) = some n := by
  have : (0 : Int) ≤ (n : Int) := by omega
  simp [natA, this]
theorem natA_0 {k : IntKind} : natA (.sc (.int k 0)) = some 0 := (rfl)
theorem ld_ref {st : List AO} {a : Bool} {n i o : Nat} : loadA st a n (.ref i o) = match st[i]? with
    | some (.cells cs) => partA a o n cs
    | _ => none := (rfl)
theorem ld_full {st : List AO} {b : Bool} {sz k : Nat} {xs cs : List AV} (h : xs[k]? = some (.agg cs)) (hl : cs.length = sz) : loadA st true sz (.ep (.sl b xs) sz k 0) = some (.agg cs) := by
  subst hl
  simp [loadA, rdA, h, AV.cells?]
theorem ld_cell {st : List AO} {b : Bool} {sz k o n : Nat} {xs cs : List AV} (h : xs[k]? = some (.agg cs)) (hl : cs.length = sz) : loadA st false n (.ep (.sl b xs) sz k o) = cs[o]? := by
  subst hl
  simp [loadA, rdA, h, AV.cells?]
theorem ld_sub {st : List AO} {b : Bool} {sz k o n : Nat} {xs cs : List AV} (h : xs[k]? = some (.agg cs)) (hl : cs.length = sz) (ho : o + n ≤ sz) : loadA st true n (.ep (.sl b xs) sz k o) = some (.agg ((cs.drop o).take n)) := by
  subst hl
  simp [loadA, rdA, h, AV.cells?, ho]
theorem ld_one {st : List AO} {b : Bool} {k n : Nat} {xs : List AV} {v : Value} (h : xs[k]? = some (.sc v)) : loadA st false n (.ep (.sl b xs) 1 k 0) = some (.sc v) := by
  simp [loadA, rdA, h, AV.cells?]
theorem get_last {l : List AO} {a : AO} : (l ++ [a])[l.length]? = some a := by simp
theorem get_last2 {l : List AO} {a b : AO} : (l ++ [a] ++ [b])[l.length]? = some a := by simp [List.append_assoc]
theorem get_last3 {l : List AO} {a b c : AO} : (l ++ [a] ++ [b] ++ [c])[l.length]? = some a := by simp [List.append_assoc]
theorem get_mid {l m : List AO} {a : AO} : (l ++ [a] ++ m)[l.length]? = some a := by simp [List.append_assoc]
theorem get_mid1 {l m : List AO} {a b : AO} : (l ++ [a] ++ m ++ [b])[l.length]? = some a := by simp [List.append_assoc]
theorem get_mid2 {l m : List AO} {a b c : AO} : (l ++ [a] ++ m ++ [b] ++ [c])[l.length]? = some a := by simp [List.append_assoc]
theorem set_last {l : List AO} {a b : AO} : (l ++ [a]).set l.length b = l ++ [b] := by simp [List.set_append_right]
theorem set_last2 {l : List AO} {a b c : AO} : (l ++ [a] ++ [b]).set l.length c = l ++ [c] ++ [b] := by simp [List.append_assoc, List.set_append_right]
theorem set_mid {l m : List AO} {a c : AO} : (l ++ [a] ++ m).set l.length c = l ++ [c] ++ m := by simp [List.append_assoc, List.set_append_right]
theorem ia_sl {sz : Nat} {en : Env} {st : List AO} {x i : Operand} {b : Bool} {xs : List AV} {k : Nat} {kk : IntKind} (hx : opA en x = .sl b xs) (hi : opA en i = .sc (.int kk (k : Int))) (hk : k < xs.length) : evQ (.iaddr sz x i) en st = some (.ep (.sl b xs) sz k 0) := by
  simp only [evQ, hx, hi, slen, natA_nat, hk, if_true]
theorem wrap_succ {k : Nat} (h : k < 9223372036854775807) : IntKind.wrap .i64 ((k : Int) + 1) = ((k + 1 : Nat) : Int) := by
  rw [wrap_i64 (by omega) (by omega)]; omega
theorem dec_lt {a b : Nat} : decide ((a : Int) < (b : Int)) = decide (a < b) := by
  by_cases h : a < b <;> simp [h]
theorem get_map {α β : Type} {f : α → β} {l : List α} {k : Nat} {a : α} (h : l[k]? = some a) : (l.map f)[k]? = some (f a) := by simp [h]
theorem get_lt {α : Type} {l : List α} {k : Nat} (h : k < l.length) : ∃ a, l[k]? = some a ∧ a ∈ l := ⟨l[k], List.getElem?_eq_getElem h, List.getElem_mem h⟩
theorem take_succ {α : Type} {l : List α} {k : Nat} {a : α} (h : l[k]? = some a) : l.take (k + 1) = l.take k ++ [a] := by
  rw [List.take_add_one, h]; rfl
theorem app_app {l m : List AO} {a : AO} : l ++ m ++ [a] = l ++ (m ++ [a]) := List.append_assoc ..
theorem ok_any {m : Nat} : AV.ok m .any = true := (rfl)

/-- At the end of a function without results. -/
theorem fin_pre {st st' : List AO} {R : AV → List AO → Prop} {x : AV} (hp : ∃ ext, st' = st ++ ext) (h : R (x.frz st' st.length) st) : Fin st R x st' := by
  obtain ⟨ext, rfl⟩ := hp
  exact fin_keep h
theorem fin_preN {st st' : List AO} {R : AV → List AO → Prop} {x : AV} (hp : ∃ ext, st' = st ++ ext) (h : R (x.frz st' st.length).nrmT st) : Fin st R x st' := by
  obtain ⟨ext, rfl⟩ := hp
  exact fin_drop h
end Go.AW

/-
  Steps of regions that draw their order.
-/
namespace Go.AW
open Go Go.RowKit Go.Proofs
set_option linter.unusedVariables false
set_option linter.unusedSimpArgs false
set_option maxRecDepth 100000

section
variable {P : Program} {N : Nat} {rd : Option Nat} {mk : List Nat} {r : List DI} {en : Env} {st : List AO} {hist : List (List AO)} {pend : List (Nat × (List AO → Prop))} {K : Env → List AO → Prop} {d : Option Nat} {b f : Nat}

theorem wp_draw {ops : List DI} {Q : AQ} : wpC P N rd (.draw ops) en mk st Q = drawC P N rd mk ops en st [] [] (RegK mk Q) := (rfl)
theorem d_nil : drawC P N rd mk [] en st hist pend K = K en st := (rfl)
def DrwK (P : Program) (N : Nat) (rd : Option Nat) (mk : List Nat) (d : Option Nat) (r : List DI) (en : Env) (hist : List (List AO)) (pend : List (Nat × (List AO → Prop))) (K : Env → List AO → Prop) (v : AV) (st : List AO) : Prop := drawC P N rd mk r (putE en d v) st hist pend K
theorem k_drw {v : AV} : DrwK P N rd mk d r en hist pend K v st = drawC P N rd mk r (putE en d v) st hist pend K := (rfl)
theorem d_q {op : AOp} (h : ∀ K' : AV → List AO → Prop, opC P N rd mk op en st K' = match evQ op en st with
    | some v => K' v st
    | none => False) : drawC P N rd mk (⟨⟨d, none, op⟩, 0, b, f⟩ :: r) en st hist pend K = optK (evQ op en st) (DrwK P N rd mk d r en hist pend K) st := by
  simp only [drawC, guardV, h]
  cases evQ op en st <;> simp [optK, DrwK]
theorem d_mov {x : Operand} : drawC P N rd mk (⟨⟨d, none, .mov x⟩, 0, b, f⟩ :: r) en st hist pend K = drawC P N rd mk r (putE en d (opA en x)) st hist pend K := by
  rw [d_q (op := .mov x) fun _ => rfl]; rfl
theorem d_pick {c a a' : Operand} : drawC P N rd mk (⟨⟨d, none, .pick c a a'⟩, 0, b, f⟩ :: r) en st hist pend K = optK (evQ (.pick c a a') en st) (DrwK P N rd mk d r en hist pend K) st := d_q fun _ => rfl
theorem d_build {zs : List AV} {ps : List (Nat × Nat × Operand)} : drawC P N rd mk (⟨⟨d, none, .build zs ps⟩, 0, b, f⟩ :: r) en st hist pend K = optK (evQ (.build zs ps) en st) (DrwK P N rd mk d r en hist pend K) st := d_q fun _ => rfl
theorem d_bin {op : BinOp} {td : TypeDesc} {x y : Operand} : drawC P N rd mk (⟨⟨d, none, .bin op td x y⟩, 0, b, f⟩ :: r) en st hist pend K = optK (evQ (.bin op td x y) en st) (DrwK P N rd mk d r en hist pend K) st := d_q fun _ => rfl
theorem d_un {op : UnOp} {x : Operand} : drawC P N rd mk (⟨⟨d, none, .un op x⟩, 0, b, f⟩ :: r) en st hist pend K = optK (evQ (.un op x) en st) (DrwK P N rd mk d r en hist pend K) st := d_q fun _ => rfl
theorem d_cvi {k : IntKind} {x : Operand} : drawC P N rd mk (⟨⟨d, none, .cvi k x⟩, 0, b, f⟩ :: r) en st hist pend K = optK (evQ (.cvi k x) en st) (DrwK P N rd mk d r en hist pend K) st := d_q fun _ => rfl
theorem d_nilck {x : Operand} : drawC P N rd mk (⟨⟨d, none, .nilck x⟩, 0, b, f⟩ :: r) en st hist pend K = optK (evQ (.nilck x) en st) (DrwK P N rd mk d r en hist pend K) st := d_q fun _ => rfl
theorem d_faddr {o : Nat} {x : Operand} : drawC P N rd mk (⟨⟨d, none, .faddr o x⟩, 0, b, f⟩ :: r) en st hist pend K = optK (evQ (.faddr o x) en st) (DrwK P N rd mk d r en hist pend K) st := d_q fun _ => rfl
theorem d_ext {x : Operand} {i : Nat} : drawC P N rd mk (⟨⟨d, none, .ext x i⟩, 0, b, f⟩ :: r) en st hist pend K = optK (evQ (.ext x i) en st) (DrwK P N rd mk d r en hist pend K) st := d_q fun _ => rfl
theorem d_iaddr {sz : Nat} {x i : Operand} : drawC P N rd mk (⟨⟨d, none, .iaddr sz x i⟩, 0, b, f⟩ :: r) en st hist pend K = optK (evQ (.iaddr sz x i) en st) (DrwK P N rd mk d r en hist pend K) st := d_q fun _ => rfl
/-- A load; nothing was turned ahead of it, nothing may come ahead of it. -/
theorem d_load {a : Bool} {n : Nat} {x : Operand} : drawC P N rd mk (⟨⟨d, none, .load a n x⟩, 1, b, 0⟩ :: r) en st [] pend K = optK (loadA st a n (opA en x)) (DrwK P N rd mk d r en [] pend K) st := by
  have h : ∀ (s : List AO) (K' : AV → List AO → Prop), opC P N rd mk (.load a n x) en s K' = match loadA s a n (opA en x) with
    | some v => K' v s
    | none => False := fun _ _ => rfl
  simp only [drawC, guardV, h]
  cases loadA st a n (opA en x) <;> simp [optK, DrwK]
/-- A load that may come behind what is turned later. -/
theorem d_loadF {a : Bool} {n : Nat} {x : Operand} {v : AV} {k : Nat} (h : loadA st a n (opA en x) = some v) (hr : drawC P N rd mk r (putE en d v) st [] ((k + 1, fun s => loadA s a n (opA en x) = some v) :: pend) K) :
    drawC P N rd mk (⟨⟨d, none, .load a n x⟩, 1, b, k + 1⟩ :: r) en st [] pend K := by
  have h0 : ∀ (s : List AO) (K' : AV → List AO → Prop), opC P N rd mk (.load a n x) en s K' = match loadA s a n (opA en x) with
    | some v => K' v s
    | none => False := fun _ _ => rfl
  simp only [drawC, guardV, h0]
  refine ⟨v, by simp [h], by simp, ?_⟩
  rw [if_neg (by omega)]
  have : (fun s => match loadA s a n (opA en x) with
    | some y => y = v ∧ True
    | none => False) = (fun s => loadA s a n (opA en x) = some v) := by
    funext s
    cases hs : loadA s a n (opA en x) <;> simp
  rw [this]; exact hr
/-- A load behind something that was turned, that may come ahead of it. -/
theorem d_loadB {a : Bool} {n : Nat} {x : Operand} {v : AV} (h : loadA st a n (opA en x) = some v) (hh : ∀ s ∈ hist.take b, loadA s a n (opA en x) = some v) (hr : drawC P N rd mk r (putE en d v) st hist pend K) :
    drawC P N rd mk (⟨⟨d, none, .load a n x⟩, 1, b, 0⟩ :: r) en st hist pend K := by
  have h0 : ∀ (s : List AO) (K' : AV → List AO → Prop), opC P N rd mk (.load a n x) en s K' = match loadA s a n (opA en x) with
    | some v => K' v s
    | none => False := fun _ _ => rfl
  simp only [drawC, guardV, h0]
  refine ⟨v, by simp [h], fun s hs => by simp [hh s hs], ?_⟩
  simpa using hr
theorem drawC_weak : ∀ {l : List DI} {en : Env} {st : List AO} {hist : List (List AO)} {pend pend' : List (Nat × (List AO → Prop))}, (∀ p ∈ pend', p ∈ pend ∨ ∀ s, p.2 s) → drawC P N rd mk l en st hist pend K → drawC P N rd mk l en st hist pend' K
  | [], en, st, hist, pend, pend', hp, h => h
  | e :: r, en, st, hist, pend, pend', hp, h => by
    have hm : ∀ p ∈ (pend'.map fun p => (p.1 - 1, p.2)), p ∈ (pend.map fun p => (p.1 - 1, p.2)) ∨ ∀ s, p.2 s := by
      intro p hp'
      obtain ⟨q, hq, rfl⟩ := List.mem_map.1 hp'
      rcases hp q hq with h1 | h1
      · exact .inl (List.mem_map.2 ⟨q, h1, rfl⟩)
      · exact .inr h1
    have ha : ∀ s, (∀ p ∈ pend, 0 < p.1 → p.2 s) → ∀ p ∈ pend', 0 < p.1 → p.2 s := fun s h1 p hp' h0 => by
      rcases hp p hp' with h2 | h2
      · exact h1 p h2 h0
      · exact h2 s
    simp only [drawC] at h ⊢
    split at h
    · exact h.elim
    · split at h
      · exact ⟨ha _ h.1, drawC_weak hm h.2⟩
      · exact drawC_weak hp h
    · split at h
      · obtain ⟨x, s, h1, h2, h3⟩ := h
        exact ⟨x, s, h1, ha _ h2, drawC_weak hm h3⟩
      · obtain ⟨x, h1, h2⟩ := h
        exact ⟨x, h1, drawC_weak hp h2⟩
      · obtain ⟨x, h1, h2, h3⟩ := h
        refine ⟨x, h1, h2, drawC_weak (fun p hp' => ?_) h3⟩
        split at hp'
        · rename_i hf; rw [if_pos hf]; exact hp p hp'
        · rename_i hf
          rw [if_neg hf]
          rcases List.mem_cons.1 hp' with rfl | hp'
          · exact .inl (List.mem_cons_self ..)
          · exact (hp p hp').imp (List.mem_cons_of_mem _) id
/-- A load of what never turns. -/
theorem d_loadA {a : Bool} {n : Nat} {x : Operand} {v : AV} (h : ∀ s, loadA s a n (opA en x) = some v) (hr : drawC P N rd mk r (putE en d v) st hist pend K) :
    drawC P N rd mk (⟨⟨d, none, .load a n x⟩, 1, b, f⟩ :: r) en st hist pend K := by
  have h0 : ∀ (s : List AO) (K' : AV → List AO → Prop), opC P N rd mk (.load a n x) en s K' = match loadA s a n (opA en x) with
    | some v => K' v s
    | none => False := fun _ _ => rfl
  simp only [drawC, guardV, h0]
  refine ⟨v, by simp [h], fun s hs => by simp [h], drawC_weak (fun p hp => ?_) hr⟩
  split at hp
  · exact .inl hp
  · rcases List.mem_cons.1 hp with rfl | hp
    · exact .inr fun s => by simp [h]
    · exact .inl hp
/-- A call that leaves the objects alone. -/
theorem d_call {fo : Operand} {args : List Operand} {x : AV} (h : AFn P (opA en fo) (args.map (opA en)) st (fun y s => y = x ∧ s = st)) (hr : drawC P N rd mk r (putE en d x) st [] pend K) :
    drawC P N rd mk (⟨⟨d, none, .call fo args⟩, 1, b, 0⟩ :: r) en st [] pend K := by
  simp only [drawC, guardV]
  exact ⟨x, h, by simp, by simpa using hr⟩
/-- A call that stands in order. -/
theorem d_call2 {fo : Operand} {args : List Operand} {x : AV} {st' : List AO} (h : AFn P (opA en fo) (args.map (opA en)) st (fun y s => y = x ∧ s = st')) (hp : ∀ p ∈ pend, 0 < p.1 → p.2 st')
    (hr : drawC P N rd mk r (putE en d x) st' (st :: hist) (pend.map fun p => (p.1 - 1, p.2)) K) :
    drawC P N rd mk (⟨⟨d, none, .call fo args⟩, 2, b, f⟩ :: r) en st hist pend K := by
  simp only [drawC, guardV]
  exact ⟨x, st', h, hp, hr⟩
theorem d_mov2 {x : Operand} : drawC P N rd mk (⟨⟨d, none, .mov x⟩, 2, b, f⟩ :: r) en st hist pend K = ((∀ p ∈ pend, 0 < p.1 → p.2 st) ∧ drawC P N rd mk r (putE en d (opA en x)) st (st :: hist) (pend.map fun p => (p.1 - 1, p.2)) K) := by
  have h : ∀ K' : AV → List AO → Prop, opC P N rd mk (.mov x) en st K' = K' (opA en x) st := fun _ => rfl
  simp only [drawC, guardV, h]
  refine propext ⟨fun ⟨y, s, ⟨e1, e2⟩, h1, h2⟩ => ?_, fun h => ⟨_, _, ⟨rfl, rfl⟩, h⟩⟩
  subst e1; subst e2; exact ⟨h1, h2⟩
/-- A slice, laid. -/
theorem d_mksl {k e sz : Nat} {ps : List Operand} (hk : k = 0) : drawC P N rd mk (⟨⟨d, none, .mksl e sz ps⟩, k, b, f⟩ :: r) en st hist pend K = ((∀ x ∈ ps.map (opA en), x.nrm.pure1 = true ∧ x.nrm.cells.length = sz) ∧ drawC P N rd mk r (putE en d (.sl true (ps.map fun y => (opA en y).nrm))) st hist pend K) := by
  subst hk
  simp only [drawC, guardV, opC]
  refine propext ⟨fun ⟨y, ⟨h1, e1, _⟩, h2⟩ => ?_, fun ⟨h1, h2⟩ => ⟨_, ⟨h1, rfl, trivial⟩, h2⟩⟩
  subst e1; exact ⟨h1, h2⟩
theorem d_len {k : Nat} {s : Bool} {x : Operand} {n : Nat} (hk : k = 0) (hn : n ≤ 140737488355328) (h : lenA s (opA en x) = some (.sc (.int .i64 n))) (hs : ∀ m, slen (opA en x) = some m → m = n) : drawC P N rd mk (⟨⟨d, none, .len s x⟩, k, b, f⟩ :: r) en st hist pend K = drawC P N rd mk r (putE en d (.sc (.int .i64 n))) st hist pend K := by
  subst hk
  simp only [drawC, guardV, opC, h]
  refine propext ⟨fun ⟨y, h1, h2⟩ => ?_, fun h2 => ⟨_, fun _ => ⟨rfl, trivial⟩, h2⟩⟩
  have := (h1 (fun m hm => by rw [hs m hm]; exact hn)).1
  subst this; exact h2
/-- What is appended to a slice that is built up. -/
theorem d_app {st0 ext : List AO} {e sz bb : Nat} {x y : Operand} {cur zs : List AV} (hx : IsBuf st0.length e sz (st0 ++ ext) (opA en x) cur) (hy : rdA (st0 ++ ext) (opA en y) = some zs)
    (hz : ∀ y ∈ zs, y.pure1 = true ∧ y.cells.length = sz) (hc : ∀ y ∈ cur, y.cells.length = sz) (hb : (cur.length + zs.length) * bb ≤ 140737488355328) (hn : cur.length + zs.length ≤ 140737488355328)
    (hp : ∀ ext' : List AO, ∀ p ∈ pend, 0 < p.1 → p.2 (st0 ++ ext'))
    (hK : ∀ v ext', IsBuf st0.length e sz (st0 ++ ext') v (cur ++ zs) → drawC P N rd mk r (putE en d v) (st0 ++ ext') ((st0 ++ ext) :: hist) (pend.map fun p => (p.1 - 1, p.2)) K) :
    drawC P N rd mk (⟨⟨d, none, .app e sz bb x y⟩, 2, b, f⟩ :: r) en (st0 ++ ext) hist pend K := by
  obtain ⟨v, ext', hv, h1⟩ : ∃ v ext', IsBuf st0.length e sz (st0 ++ ext') v (cur ++ zs) ∧ opC P N rd mk (.app e sz bb x y) en (st0 ++ ext) (fun y s => y = v ∧ s = st0 ++ ext') := by
    simp only [opC, hy]
    rcases hx with hx | ⟨g, h1, h2, h3⟩
    · rw [hx]
      cases zs with
      | nil => exact ⟨_, ext, .inl (by simp), hz, rfl, rfl⟩
      | cons z zs =>
        refine ⟨.acc (st0 ++ ext).length (cur.length + (zs.length + 1)), ext ++ [.acc e sz (cur ++ z :: zs)], .inr ⟨(st0 ++ ext).length, by simp, ?_, ?_⟩, hz, ⟨hc, hb, hn⟩, rfl, ?_⟩
        · simp
        · rw [← List.append_assoc]; simp
        · rw [List.append_assoc]
    · rw [h2]
      simp only [h3]
      have hg := (List.getElem?_eq_some_iff.1 h3).1
      have e1 : (st0 ++ ext).set g (.acc e sz (cur ++ zs)) = st0 ++ ext.set (g - st0.length) (.acc e sz (cur ++ zs)) := by
        rw [List.set_append_right _ _ h1]
      refine ⟨.acc g (cur.length + zs.length), ext.set (g - st0.length) (.acc e sz (cur ++ zs)), .inr ⟨g, h1, by simp, ?_⟩, hz, ⟨trivial, trivial, trivial, hb, hn⟩, rfl, e1⟩
      rw [← e1, List.getElem?_set_self hg]
  simp only [drawC, guardV]
  exact ⟨v, _, h1, hp ext', hK v ext' hv⟩
/-- A store into cells. -/
theorem d_store {n : Nat} {x y : Operand} {j off : Nat} {vs cs : List AV} (hx : opA en x = .ref j off) (hy : (opA en y).cells? = some vs) (hj : st[j]? = some (.cells cs)) (hl : vs.length = n ∧ off + n ≤ cs.length)
    (hp : ∀ p ∈ pend, 0 < p.1 → p.2 (st.set j (.cells (putAt cs off vs)))) (hK : drawC P N rd mk r (putE en d .any) (st.set j (.cells (putAt cs off vs))) (st :: hist) (pend.map fun p => (p.1 - 1, p.2)) K) :
    drawC P N rd mk (⟨⟨d, none, .store n x y⟩, 2, b, f⟩ :: r) en st hist pend K := by
  simp only [drawC, guardV]
  refine ⟨.any, st.set j (.cells (putAt cs off vs)), ?_, hp, hK⟩
  simp only [opC, hx, hy, hj]
  exact ⟨hl, trivial, trivial⟩
end
end Go.AW

/-
  Slices that are built up, as arguments.
-/
namespace Go.AW
open Go Go.RowKit Go.Proofs
set_option linter.unusedVariables false
set_option linter.unusedSimpArgs false
set_option maxRecDepth 100000

section
variable {P : Program}
/-- A slice under construction is never written again from now on. -/
theorem ACall.thaw {f g : Nat} {args : List AV} {st : List AO} {R : AV → List AO → Prop} (h : ACall P f (args.map (AV.thaw st g)) (st.set g .dead) R) : ACall P f args st R := by
  intro w ρ D vs hW hV
  obtain ⟨hT, hx⟩ := hW.thaw (g := g)
  have pm : ∀ e w', Post (Cx.thaw ⟨w, ρ, D, st⟩ g) R e w' → Post ⟨w, ρ, D, st⟩ R e w' := by
    rintro e w' ⟨v, x, st', ρ', D', h1, h2, h3, h4, h5⟩
    exact ⟨v, x, st', ρ', D', h1, h2, h3, hx.trans h4, h5⟩
  have hV' : VRs (Cx.thaw ⟨w, ρ, D, st⟩ g) (args.map (AV.thaw st g)) vs := by
    refine ⟨by simpa using hV.1, fun i x v hx hv => ?_⟩
    simp only [List.getElem?_map] at hx
    cases hc : args[i]? with
    | none => rw [hc] at hx; cases hx
    | some y => rw [hc] at hx; injection hx with hx; subst hx; exact VR.thaw hW (hV.2 i y v hc hv)
  rcases h w ρ _ vs hT hV' with ⟨h1, h2⟩ | ⟨v, w', h1, h2⟩
  · refine .inl ⟨h1, fun cs => ?_⟩
    obtain ⟨e, w', fr, hR, hs⟩ := h2 cs
    exact ⟨e, w', fr, pm _ _ hR, hs⟩
  · exact .inr ⟨v, w', h1, pm _ _ h2⟩

theorem IsBuf.push {n0 e sz : Nat} {st ext : List AO} {v : AV} {cur : List AV} {o : AO} (h : IsBuf n0 e sz (st ++ ext) v cur) : IsBuf n0 e sz (st ++ (ext ++ [o])) v cur :=
  h.mono fun g _ hg => by rw [← List.append_assoc, List.getElem?_append_left hg]

theorem IsBuf.cells {n0 e sz : Nat} {st : List AO} {v : AV} {cur : List AV} (h : IsBuf n0 e sz st v cur) : v.cells? = some [v] := by
  rcases h with rfl | ⟨g, _, rfl, _⟩ <;> rfl
theorem IsBuf.frzC {n0 e sz m : Nat} {st : List AO} {v : AV} {cur : List AV} (h : IsBuf n0 e sz st v cur) (hm : m ≤ n0) : (v.frzC st m).nrmC = .sl false cur := by
  rcases h with rfl | ⟨g, h1, rfl, h2⟩
  · rfl
  · have : ¬ g < m := by omega
    simp only [AV.frzC, this, if_false, h2, if_true, AV.nrmC]
theorem IsBuf.set {n0 e sz j : Nat} {st : List AO} {v : AV} {cur : List AV} {o : AO} (h : IsBuf n0 e sz st v cur) (hj : j < n0) : IsBuf n0 e sz (st.set j o) v cur :=
  h.mono fun g hg _ => List.getElem?_set_ne (by omega)
theorem frzC_sc {st : List AO} {m : Nat} {v : Value} : (AV.sc v).frzC st m = .sc v := by simp [AV.frzC, AV.ok]
theorem frzC_sl {st : List AO} {m : Nat} {b : Bool} {xs : List AV} : (AV.sl b xs).frzC st m = .sl b xs := by simp [AV.frzC]
theorem get_t2 {l x y : List AO} {a : AO} : (l ++ [a] ++ x ++ y)[l.length]? = some a := by simp [List.append_assoc]
theorem set_t2 {l x y : List AO} {a c : AO} : (l ++ [a] ++ x ++ y).set l.length c = l ++ [c] ++ x ++ y := by simp [List.append_assoc, List.set_append_right]
theorem get_mid3 {l x y z : List AO} {a : AO} : (l ++ [a] ++ x ++ y ++ z)[l.length]? = some a := by simp [List.append_assoc]
theorem get_mid4 {l x y z u : List AO} {a : AO} : (l ++ [a] ++ x ++ y ++ z ++ u)[l.length]? = some a := by simp [List.append_assoc]
theorem set_mid3 {l x y z : List AO} {a c : AO} : (l ++ [a] ++ x ++ y ++ z).set l.length c = l ++ [c] ++ x ++ y ++ z := by simp [List.append_assoc, List.set_append_right]
theorem fin_cell {st st' : List AO} {t n : Nat} {a : Bool} {R : AV → List AO → Prop} {x : AX} {en : Env} {v : AV} (hx : x = .normal ∨ x = .ret) (hv : loadA st' a n (en.get t) = some v) (h : Fin st R v st') : FinQ [.cell t a n] st R x en [] st' := by
  rcases hx with rfl | rfl <;> simp only [FinQ, marksOk, resW, resL, resOne, hv] <;> exact h

/-- What is never changed by a freeze. -/
def Still (x : AV) : Prop := ∀ st g, x.thaw st g = x
theorem Still.sl {b : Bool} {xs : List AV} : Still (.sl b xs) := fun _ _ => rfl
theorem Still.sc {v : Value} : Still (.sc v) := fun _ _ => rfl
theorem Still.ref {i o : Nat} : Still (.ref i o) := fun _ _ => rfl

/-- A call that is handed a slice that was built up. -/
theorem call_buf {f : Nat} {st0 ext : List AO} {e sz : Nat} {v : AV} {cur : List AV} (pre post : List AV) {R : AV → List AO → Prop} (hb : IsBuf st0.length e sz (st0 ++ ext) v cur)
    (h1 : ∀ x ∈ pre, Still x) (h2 : ∀ x ∈ post, Still x) (h : ∀ ext', ACall P f (pre.map AV.nrm ++ .sl false cur :: post.map AV.nrm) (st0 ++ ext') R) : ACall P f (pre ++ v :: post) (st0 ++ ext) R := by
  have e2 : ∀ (l : List AV) st g, (∀ x ∈ l, Still x) → l.map (AV.thaw st g) = l := fun l st g hl => by
    conv => rhs; rw [← List.map_id l]
    exact List.map_congr_left fun x hx => hl x hx st g
  rcases hb with rfl | ⟨g, hg, rfl, hs⟩
  · refine ACall.nrm ?_
    simp only [List.map_append, List.map_cons]
    exact h ext
  · refine ACall.thaw (g := g) (ACall.nrm ?_)
    have hl := (List.getElem?_eq_some_iff.1 hs).1
    rw [List.set_append_right _ _ hg]
    have e3 : AV.thaw (st0 ++ ext) g (.acc g cur.length) = .sl false cur := by
      simp only [AV.thaw, AV.thawC, if_true, hs]
    simp only [List.map_append, List.map_cons, e2 _ _ _ h1, e2 _ _ _ h2, e3]
    exact h _
end
end Go.AW
