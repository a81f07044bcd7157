/-
  An evaluator and its soundness.
-/
import Derived.Test.YtkpnemmniepchaaGreatW6
import Derived.LoopNIn
/-
  AW, part 19: the evaluator.
-/
namespace Go.AW
open Go Go.RowKit
set_option linter.unusedVariables false
set_option linter.unusedSimpArgs false

/-- Plain values, compared. -/
def valEq : Value → Value → Bool
  | .bool a, .bool b => a == b
  | .int k a, .int j b => decide (k = j) && a == b
  | .string s, .string t => s == t
  | .pointer none, .pointer none => true
  | .map none, .map none => true
  | .nilFunc, .nilFunc => true
  | .nilIface, .nilIface => true
  | _, _ => false

mutual
def AV.beq : AV → AV → Bool
  | .any, .any => true
  | .sc a, .sc b => valEq a b
  | .agg a, .agg b => AV.beqL a b
  | .tup a, .tup b => AV.beqL a b
  | .sl c a, .sl d b => c == d && AV.beqL a b
  | .acc g n, .acc h m => g == h && n == m
  | .ref i o, .ref j p => i == j && o == p
  | .ep s z i o, .ep t y j p => s.beq t && z == y && i == j && o == p
  | .mp i, .mp j => i == j
  | .fn f k a, .fn g j b => f == g && k == j && AV.beqL a b
  | .yl i, .yl j => i == j
  | .av g N z l n, .av h M y k m => g == h && N == M && z == y && l == k && n == m
  | _, _ => false
def AV.beqL : List AV → List AV → Bool
  | [], [] => true
  | a :: r, b :: s => a.beq b && AV.beqL r s
  | _, _ => false
end

/-- A call's or an operation's outcome: the value, the objects, below which object none has turned. -/
abbrev Res := AV × List AO × Nat
abbrev Out := AX × Env × List Nat × List AO × Nat
def noLo : Nat := 1000000000

def bindL {α β : Type} : List α → (α → Option (List β)) → Option (List β)
  | [], _ => some []
  | x :: r, f => match f x with
    | none => none
    | some L => match r with
      | [] => some L
      | y :: r' => match bindL (y :: r') f with
        | none => none
        | some M => some (L ++ M)

/-- An operation that is no call. -/
def evO (ao : AOp) (en : Env) (st : List AO) : Option (List Res) := match ao with
  | .alloc cs => some [(.ref st.length 0, st ++ [.cells cs], noLo)]
  | .box x => match (opA en x).cells? with
    | some cs => some [(.ref st.length 0, st ++ [.cells cs], noLo)]
    | none => none
  | .mksl _ sz ps => if (ps.map fun y => (opA en y).nrm).all (fun x => x.pure1 && x.cells.length == sz) then some [(.sl true (ps.map fun y => (opA en y).nrm), st, noLo)] else none
  | .store n x y => match opA en x, (opA en y).cells? with
    | .ref j off, some vs => match st[j]? with
      | some (.cells cs) => if vs.length = n ∧ off + n ≤ cs.length then some [(.any, st.set j (.cells (putAt cs off vs)), j)] else none
      | _ => none
    | .ep s sz i off, some vs => match elemA st sz i s with
      | some (g, j) => match st[g]? with
        | some (.acc e sz' xs) => match xs[j]? with
          | some el => match el.cells? with
            | some cs => if sz' = sz ∧ vs.length = n ∧ vs ≠ [] ∧ off + n ≤ cs.length ∧ vs.all (fun x => x.nrmC.flatOk) = true then some [(.any, st.set g (.acc e sz (xs.set j (setE el off vs))), g)] else none
            | none => none
          | none => none
        | _ => none
      | none => none
    | _, _ => none
  | .call _ _ => none
  | .app e sz bytes x y => match rdA st (opA en y) with
    | none => none
    | some ys => if ys.all (fun y => y.pure1 && y.cells.length == sz) then match opA en x with
      | .acc g n => match st[g]? with
        | some (.acc e' sz' xs) => if n = xs.length ∧ e' = e ∧ sz' = sz ∧ (xs.length + ys.length) * bytes ≤ 140737488355328 ∧ xs.length + ys.length ≤ 140737488355328 then some [(.acc g (n + ys.length), st.set g (.acc e sz (xs ++ ys)), g)] else none
        | _ => none
      | .sl true xs => match ys with
        | [] => some [(.sl true xs, st, noLo)]
        | y :: ys => if xs.all (fun y => y.cells.length == sz) = true ∧ (xs.length + (ys.length + 1)) * bytes ≤ 140737488355328 ∧ xs.length + (ys.length + 1) ≤ 140737488355328 then some [(.acc st.length (xs.length + (ys.length + 1)), st ++ [.acc e sz (xs ++ y :: ys)], noLo)] else none
      | .av g M sz' 0 k => match st[g]? with
        | some (.acc e' sz'' xs) => if M = xs.length ∧ e' = e ∧ sz' = sz ∧ sz'' = sz ∧ k + ys.length ≤ M then some [(.av g M sz 0 (k + ys.length), st.set g (.acc e sz (xs.take k ++ ys ++ xs.drop (k + ys.length))), g)] else none
        | _ => none
      | _ => none
      else none
  | .len str x => match lenA str (opA en x) with
    | some v => some [(v, st, noLo)]
    | none => none
  | .isnil neg x => match slen (opA en x) with
    | some (_ + 1) => some [(.sc (.bool neg), st, noLo)]
    | some 0 => some [(.sc (.bool true), st, noLo), (.sc (.bool false), st, noLo)]
    | none => none
  | .cap x => match opA en x with
    | .sl true xs => some [(.sc (.int .i64 (xs.length : Int)), st, noLo)]
    | _ => none
  | .mkmap _ => some [(.mp st.length, st ++ [.map 0 []], noLo)]
  | .mupd tag x k v => match opA en x, keyG tag (opA en k), opA en v with
    | .mp i, some key, .sc val => match st[i]? with
      | some (.map clk ents) => match findK key ents 0 with
        | some (some j) => some [(.any, st.set i (.map clk (ents.modify j fun e => { e with key := key, val := val })), i)]
        | some none => if ents.length < 140737488355328 ∧ clk < 140737488355328 then some [(.any, st.set i (.map (clk + 1) (ents ++ [⟨key, val, clk⟩])), i)] else none
        | none => none
      | _ => none
    | _, _, _ => none
  | .mentry tag z x k => match opA en x, keyG tag (opA en k) with
    | .mp i, some key => match st[i]? with
      | some (.map clk ents) => match findK key ents 0 with
        | some (some j) => match ents[j]? with
          | some e => some [(.tup [constA e.val, .sc (.int .i64 (e.born : Int))], st.set i (.map clk (ents.modify j fun e => { e with key := key })), i)]
          | none => none
        | some none => if ents.length < 140737488355328 ∧ clk < 140737488355328 then some [(.tup [constA z, .sc (.int .i64 (clk : Int))], st.set i (.map (clk + 1) (ents ++ [⟨key, z, clk⟩])), i)] else none
        | none => none
      | _ => none
    | _, _ => none
  | .estore x s v => match opA en x, opA en s, opA en v with
    | .mp i, .sc (.int _ n), .sc val => match st[i]? with
      | some (.map clk ents) => match ents.findIdx? (fun e => (e.born : Int) == n) with
        | some j => some [(.any, st.set i (.map clk (ents.modify j fun e => { e with val := val })), i)]
        | none => none
      | _ => none
    | _, _, _ => none
  | .mdel tag x k => match opA en x, keyG tag (opA en k) with
    | .mp i, some key => match st[i]? with
      | some (.map clk ents) => match findK key ents 0 with
        | some (some j) => some [(.any, st.set i (.map clk (ents.eraseIdx j)), i)]
        | some none => some [(.any, st, noLo)]
        | none => none
      | _ => none
    | _, _ => none
  | .range x => match opA en x with
    | .mp i => match st[i]? with
      | some (.map clk _) => some [(.ref st.length 0, st ++ [.iter i clk [] clk], noLo)]
      | _ => none
    | _ => none
  | .next x => match opA en x with
    | .ref i 0 => match st[i]? with
      | some (.iter m since seen last) => match st[m]? with
        | some (.map clk ents) => if ents.all (fun e => decide (e.born < since)) = true ∧ since ≤ last then
            match ents.filter (fun e => !seen.contains e.born) with
            | [] => some [(.tup [.sc (.bool false)], st, noLo)]
            | l => some (l.map fun e => (.tup [.sc (.bool true), constA e.key, constA e.val], st.set i (.iter m since (seen ++ [e.born]) clk), i))
          else none
        | _ => none
      | _ => none
    | _ => none
  | .clear _ sz z x => match viewA st sz (opA en x) with
    | some (g, lo, n) => match st[g]? with
      | some (.acc e' sz' xs) => if sz' = sz ∧ z.pure1 = true then some [(.any, st.set g (.acc e' sz (xs.take lo ++ List.replicate n z ++ xs.drop (lo + n))), g)] else none
      | _ => none
    | none => none
  | .raw _ => none
  | q => match evQ q en st with
    | some v => some [(v, st, noLo)]
    | none => none

def evOC (cl : AV → List AV → List AO → Option (List Res)) (ao : AOp) (en : Env) (st : List AO) : Option (List Res) := match ao with
  | .call f args => cl (opA en f) (args.map (opA en)) st
  | ao => evO ao en st

/-- Below which object none is frozen first. -/
def preL (op : AOp) (en : Env) : Nat := ((op.elems en).flatMap fun y => (opA en y).accs).foldl min noLo

def evOps (cl : AV → List AV → List AO → Option (List Res)) : List AI → Env → List AO → Nat → Option (List (Env × List AO × Nat))
  | [], en, st, lo => some [(en, st, lo)]
  | i :: r, en, st, lo => match guardV i.g en with
    | none => none
    | some false => evOps cl r (putE en i.dst (.tup [])) st lo
    | some true => match evOC cl i.op (preO i.op en st).1 (preO i.op en st).2 with
      | none => none
      | some L => bindL L fun (x, s, l) => evOps cl r (putE en i.dst x) s (min lo (min l (preL i.op en)))

/-- Does an operation yield just this value, and leave the objects alone? -/
def evSame (cl : AV → List AV → List AO → Option (List Res)) (ao : AOp) (en : Env) (x : AV) (st : List AO) : Bool := match evOC cl ao en st with
  | some [(y, s, lo)] => x.beq y && decide (st.length ≤ lo) && decide (s.length = st.length)
  | _ => false

def evDraw (cl : AV → List AV → List AO → Option (List Res)) : List DI → Env → List AO → Nat → List (List AO) → List (Nat × AOp × Env × AV) → Option (Env × List AO × Nat)
  | [], en, st, lo, _, _ => some (en, st, lo)
  | d :: r, en, st, lo, hist, pend => match guardV d.i.g en with
    | none => none
    | some false => match d.k with
      | 2 => if pend.all (fun p => p.1 == 0 || evSame cl p.2.1 p.2.2.1 p.2.2.2 st) then evDraw cl r (putE en d.i.dst (.tup [])) st lo (st :: hist) (pend.map fun p => (p.1 - 1, p.2)) else none
      | _ => evDraw cl r (putE en d.i.dst (.tup [])) st lo hist pend
    | some true => match evOC cl d.i.op en st with
      | some [(x, s, l)] => match d.k with
        | 2 => if pend.all (fun p => p.1 == 0 || evSame cl p.2.1 p.2.2.1 p.2.2.2 s) then evDraw cl r (putE en d.i.dst x) s (min lo l) (st :: hist) (pend.map fun p => (p.1 - 1, p.2)) else none
        | 0 => if decide (st.length ≤ l) && decide (s.length = st.length) then evDraw cl r (putE en d.i.dst x) st lo hist pend else none
        | _ => if decide (st.length ≤ l) && decide (s.length = st.length) && (hist.take d.back).all (fun q => evSame cl d.i.op en x q) then
            evDraw cl r (putE en d.i.dst x) st lo hist (if d.fwd = 0 then pend else (d.fwd, d.i.op, en, x) :: pend) else none
      | _ => none

/-- May the objects from m on be dropped, as far as a value is concerned? -/
def needOk (kp : Bool) (m : Nat) : AV → Bool
  | .acc _ _ | .av _ _ _ _ _ => !kp
  | .sl _ _ | .sc _ | .any => true
  | .agg cs => cs.all fun x => match x with
    | .acc _ _ | .av _ _ _ _ _ => true
    | x => x.ok m
  | .tup cs => cs.all fun x => match x with
    | .acc _ _ | .av _ _ _ _ _ => !kp
    | .agg ds => ds.all fun x => match x with
      | .acc _ _ | .av _ _ _ _ _ => true
      | x => x.ok m
    | x => x.ok m
  | x => x.ok m

def AO.okB (m : Nat) : AO → Bool
  | .cells cs => AV.okL m cs
  | .iter i _ _ _ => decide (i < m)
  | .loop _ en _ _ _ _ _ _ _ => okE m en
  | _ => true

def finM (kp : Bool) (m0 : Nat) (st : List AO) (v : AV) : Nat :=
  if needOk kp m0 v && (st.take m0).all (AO.okB m0) then m0 else st.length

def evFin (kp : Bool) (rv : List RV) (m0 : Nat) : Out → Option (List Res)
  | (.exit _, _, _, _, _) => none
  | (_, en, mk, st, lo) => if mk.all (fun i => decide (m0 ≤ i)) then match marksOk mk st with
    | none => none
    | some st' => match resW rv en st' with
      | none => none
      | some v =>
        let m := if st'.length = m0 then m0 else finM kp m0 st' v
        some [(v.frz st' m, st'.take m, if lo < m0 then lo else noLo)]
    else none

/-- The same outcome, twice. -/
def sameRes (m0 : Nat) (a b : Res) : Bool := a.1.beq b.1 && decide (m0 ≤ a.2.2) && decide (m0 ≤ b.2.2) && decide (a.2.1.length = m0) && decide (b.2.1.length = m0)
def dedup (m0 : Nat) : List Res → List Res
  | [] => []
  | [r] => [r]
  | r :: rest => r :: rest.filter fun q => !sameRes m0 r q

structure Tab where
  fn : Nat → Option (Nat × AC × List RV)
  orc : Nat → List AV → List AO → Option (List Res)
  keep : Nat → Bool
  body : Nat → Bool

def evRoundEnd (i m0 : Nat) : Out → Option (List Res)
  | (x, _, mk, st, lo) => match mk, st[i]? with
    | [], some (.loop N en ps asg body A B .busy none) =>
      let st' := st.set i (.loop N en ps asg body A B (if x.pend.isNone then .ready else .done) x.pend)
      let m := if st'.length = m0 then m0 else finM false m0 st' .any
      some [(.sc (.bool x.pend.isNone), st'.take m, min i (if lo < m0 then lo else noLo))]
    | _, _ => none

def evCall (T : Tab) (rec : Nat → Option Nat → AC → Env → List Nat → List AO → Option (List Out)) (fv : AV) (args : List AV) (st : List AO) : Option (List Res) := match fv with
  | .fn f k caps =>
    let xs := caps.take k ++ args ++ caps.drop k
    match T.orc f xs st with
    | some L => some L
    | none => match T.fn f with
      | none => none
      | some (N, ac, rv) => if xs.length ≤ N then match rec N none ac (argE 0 xs) [] st with
        | none => none
        | some L => match bindL L (evFin (T.keep f) rv st.length) with
          | none => none
          | some R => some (dedup st.length R)
        else none
  | .yl i => match st[i]? with
    | some (.loop N en ps asg body A B .ready none) => if ps.length = args.length ∧ ps.all (fun p => decide (p < N)) = true then
        match rec N (some i) A (putPs (ps.zip args) en) [] st with
        | none => none
        | some L => bindL L fun (x, en1, mk1, st1, lo1) => match x, mk1, st1[i]? with
          | .normal, [], some (.loop N' en' ps' asg' body' A' B' .ready none) =>
            match rec N' (some i) B' en1 [] (st1.set i (.loop N' en' ps' asg' body' A' B' .busy none)) with
            | none => none
            | some M => bindL (M.map fun (x, e, k, s, l) => (x, e, k, s, min lo1 l)) (evRoundEnd i st.length)
          | _, _, _ => none
      else none
    | _ => none
  | _ => none

/-- Which temporaries have been told? (bits) -/
def prune : Nat → Env → Env
  | _, [] => []
  | seen, (k, v) :: r => if seen.testBit k then prune seen r else (k, v) :: prune (seen ||| 2 ^ k) r

def evRangeEnd (i : Nat) (en : Env) (mk : List Nat) : Res → Option (List Out)
  | (_, s, lo) => match s[i]? with
    | some (.loop _ _ _ _ _ _ _ ls pend) => match ls, pend with
      | .busy, _ => none
      | _, none => some [(.normal, en, mk, s.set i .dead, min i lo)]
      | _, some .ret => some [(.ret, en, mk, s.set i .dead, min i lo)]
      | _, some (.exit id) => some [(.exit id, en, mk, s.set i .dead, min i lo)]
      | _, _ => none
    | _ => none

def ev (T : Tab) : Nat → Nat → Option Nat → AC → Env → List Nat → List AO → Option (List Out)
  | 0 => fun _ _ _ _ _ _ => none
  | n + 1 => fun N rd ac en mk st => match ac with
    | .skip => some [(.normal, en, mk, st, noLo)]
    | .ret => some [(.ret, en, mk, st, noLo)]
    | .exit id => some [(.exit id, en, mk, st, noLo)]
    | .seq a b => match ev T n N rd a en mk st with
      | none => none
      | some L => bindL L fun (x, en, mk, st, lo) => match x with
        | .normal => (ev T n N rd b en mk st).map fun M => M.map fun (x, e, k, s, l) => (x, e, k, s, min lo l)
        | x => some [(x, en, mk, st, lo)]
    | .cond x a b => match opA en x with
      | .sc (.bool v) => ev T n N rd (if v then a else b) en mk st
      | _ => none
    | .block id b => match ev T n N rd b en mk st with
      | none => none
      | some L => some (L.map fun (x, en, mk, st, lo) => match x with
        | .exit i => if i = id then (.normal, en, mk, st, lo) else (.exit i, en, mk, st, lo)
        | x => (x, en, mk, st, lo))
    | .loop b => match ev T n N rd b en mk st with
      | none => none
      | some L => bindL L fun (x, en, mk, st, lo) => match x with
        | .normal => (ev T n N rd (.loop b) (prune 0 en) mk st).map fun M => M.map fun (x, e, k, s, l) => (x, e, k, s, min lo l)
        | x => some [(x, en, mk, st, lo)]
    | .reg ops => match evOps (evCall T (ev T n)) ops en st noLo with
      | none => none
      | some L => some (L.map fun (e, s, l) => (.normal, e, mk, s, l))
    | .draw ops => match evDraw (evCall T (ev T n)) ops en st noLo [] [] with
      | none => none
      | some (e, s, l) => some [(.normal, e, mk, s, l)]
    | .rangeF f ps asg body A B => match opA en f with
      | .fn g k caps =>
        if (match rd with
          | none => true
          | some j => match st[j]? with
            | some (.loop _ _ _ _ _ _ _ _ _) => true
            | _ => false) && ps.all (fun p => decide (p < N)) && T.body g then
          match rd with
          | none => match evCall T (ev T n) (.fn g k caps) [.yl (st.length + 1)] (st ++ [.dfr] ++ [.loop N en ps asg body A B .ready none]) with
            | none => none
            | some L => bindL L (evRangeEnd (st.length + 1) en (st.length :: mk))
          | some _ => match evCall T (ev T n) (.fn g k caps) [.yl st.length] (st ++ [.loop N en ps asg body A B .ready none]) with
            | none => none
            | some L => bindL L (evRangeEnd st.length en mk)
        else none
      | _ => none
    | .raw _ => none

end Go.AW

/-
  AW, part 20: the evaluator's operations are right.
-/
namespace Go.AW
open Go Go.RowKit
set_option linter.unusedVariables false
set_option linter.unusedSimpArgs false

def AO.isLoop : AO → Bool
  | .loop _ _ _ _ _ _ _ _ _ => true
  | _ => false

/-- Each loop's rounds are read as it says. -/
def LOk (P : Program) (st : List AO) : Prop := ∀ (i : Nat) N en ps asg body A B ls pend, st[i]? = some (.loop N en ps asg body A B ls pend) → comp P N asg = A ∧ comp P N body = B ∧ ∀ p ∈ ps, p < N

/-- How objects go on. -/
structure Kp (P : Program) (st st' : List AO) (lo : Nat) : Prop where
  len : st.length ≤ st'.length
  lo : ∀ i, i < lo → i < st.length → st'[i]? = st[i]?
  lp : ∀ (i : Nat) N en ps asg body A B ls pend, i < st.length → st'[i]? = some (.loop N en ps asg body A B ls pend) → ∃ ls' pend', st[i]? = some (.loop N en ps asg body A B ls' pend')
  ok : LOk P st → LOk P st'

section
variable {P : Program} {N : Nat} {rd : Option Nat} {en : Env} {mk : List Nat} {st : List AO} {K : AV → List AO → Prop}

theorem Kp.refl (lo : Nat) : Kp P st st lo := ⟨Nat.le_refl _, fun _ _ _ => rfl, fun i N en ps asg body A B ls pend _ h => ⟨ls, pend, h⟩, fun h => h⟩
theorem Kp.trans {a b c : List AO} {l m : Nat} (h : Kp P a b l) (k : Kp P b c m) : Kp P a c (min l m) := by
  refine ⟨Nat.le_trans h.len k.len, fun i hi hl => ?_, fun i N en ps asg body A B ls pend hi hc => ?_, fun ho => k.ok (h.ok ho)⟩
  · rw [k.lo i (by omega) (Nat.lt_of_lt_of_le hl h.len), h.lo i (by omega) hl]
  · obtain ⟨ls', pend', h1⟩ := k.lp i N en ps asg body A B ls pend (Nat.lt_of_lt_of_le hi h.len) hc
    exact h.lp i N en ps asg body A B ls' pend' hi h1

theorem Kp.push {o : AO} (h : o.isLoop = false) (lo : Nat) : Kp P st (st ++ [o]) lo := by
  have old : ∀ i, i < st.length → (st ++ [o])[i]? = st[i]? := fun i hi => List.getElem?_append_left hi
  refine ⟨by simp, fun i _ hi => old i hi, fun i N en ps asg body A B ls pend hi hc => ⟨ls, pend, by rw [← old i hi]; exact hc⟩, fun ho i N en ps asg body A B ls pend hc => ?_⟩
  by_cases hi : i < st.length
  · rw [old i hi] at hc; exact ho i N en ps asg body A B ls pend hc
  · have hi' : i = st.length := by
      have := (List.getElem?_eq_some_iff.1 hc).1
      simp at this; omega
    subst hi'
    simp at hc
    subst hc; cases h

theorem Kp.set {o : AO} {j : Nat} (h : o.isLoop = false) : Kp P st (st.set j o) j := by
  have old : ∀ i, i ≠ j → (st.set j o)[i]? = st[i]? := fun i hi => List.getElem?_set_ne (Ne.symm hi)
  have no : ∀ i N en ps asg body A B ls pend, (st.set j o)[i]? = some (.loop N en ps asg body A B ls pend) → i ≠ j := by
    rintro i N en ps asg body A B ls pend hc rfl
    have hl := (List.getElem?_eq_some_iff.1 hc).1
    rw [List.getElem?_set_self (by simpa using hl)] at hc
    injection hc with hc; subst hc; cases h
  refine ⟨by simp, fun i hi _ => old i (by omega), fun i N en ps asg body A B ls pend hi hc => ⟨ls, pend, by rw [← old i (no i _ _ _ _ _ _ _ _ _ hc)]; exact hc⟩, fun ho i N en ps asg body A B ls pend hc => ?_⟩
  rw [old i (no i _ _ _ _ _ _ _ _ _ hc)] at hc
  exact ho i N en ps asg body A B ls pend hc

theorem Kp.lower {st' : List AO} {l m : Nat} (h : Kp P st st' l) (hm : m ≤ l) : Kp P st st' m := ⟨h.len, fun i hi => h.lo i (by omega), h.lp, h.ok⟩

set_option maxHeartbeats 2000000 in
theorem evO_kp {ao : AOp} {L : List Res} (h : evO ao en st = some L) : ∀ r ∈ L, Kp P st r.2.1 r.2.2 := by
  intro r hr
  cases ao <;> simp only [evO] at h <;> (repeat' split at h) <;> first
    | (cases h; done)
    | (injection h with h; subst h
       first
        | (simp only [List.mem_singleton] at hr; subst hr; first | exact .refl _ | exact .push rfl _ | exact .set rfl)
        | (simp only [List.mem_cons, List.not_mem_nil, or_false] at hr; rcases hr with rfl | rfl <;> exact .refl _)
        | (obtain ⟨e, _, rfl⟩ := List.mem_map.1 hr; exact .set rfl))

set_option maxHeartbeats 4000000 in
theorem evO_ok {ao : AOp} {L : List Res} (h : evO ao en st = some L) (hK : ∀ r ∈ L, K r.1 r.2.1) : opC P N rd mk ao en st K := by
  cases ao with
  | call f args => simp [evO] at h
  | raw o => simp [evO] at h
  | next x =>
    simp only [evO, opC] at h ⊢
    cases hx : opA en x <;> simp only [hx] at h ⊢ <;> try (cases h; done)
    rename_i i o
    cases o <;> simp only at h ⊢ <;> try (cases h; done)
    cases hi : st[i]? <;> simp only [hi] at h ⊢ <;> try (cases h; done)
    rename_i ob
    cases ob <;> simp only at h ⊢ <;> try (cases h; done)
    rename_i m since seen last
    cases hm : st[m]? <;> simp only [hm] at h ⊢ <;> try (cases h; done)
    rename_i ob
    cases ob <;> simp only at h ⊢ <;> try (cases h; done)
    rename_i clk ents
    split at h
    · rename_i hc
      refine ⟨⟨by simpa using hc.1, hc.2⟩, ?_⟩
      cases hf : ents.filter (fun e => !seen.contains e.born) with
      | nil =>
        rw [hf] at h
        injection h with h
        exact ⟨fun _ => hK (.tup [.sc (.bool false)], st, noLo) (by rw [← h]; simp), (fun e he => by cases he)⟩
      | cons e0 es =>
        rw [hf] at h
        injection h with h
        refine ⟨(fun hq => by cases hq), fun e he => ?_⟩
        exact hK _ (by rw [← h]; exact List.mem_map.2 ⟨e, he, rfl⟩)
    · cases h
  | len str x =>
    simp only [evO, opC] at h ⊢
    cases hv : lenA str (opA en x) <;> simp only [hv] at h ⊢ <;> try (cases h; done)
    injection h with h; subst h
    exact fun _ => hK _ (List.mem_singleton.2 rfl)
  | _ =>
    simp only [evO, opC] at h ⊢
    (repeat' split at h) <;> first
      | (cases h; done)
      | (injection h with h; subst h; simp at hK; simp_all; done)
      | (injection h with h; subst h; simp at hK; simp_all; omega)

end
end Go.AW

/-
  AW, part 21: the evaluator's regions are right.
-/
namespace Go.AW
open Go Go.RowKit
set_option linter.unusedVariables false
set_option linter.unusedSimpArgs false

theorem bindL_spec {α β : Type} {f : α → Option (List β)} : ∀ {L : List α} {M : List β}, bindL L f = some M → (∀ x ∈ L, ∃ Mx, f x = some Mx ∧ ∀ y ∈ Mx, y ∈ M) ∧ ∀ y ∈ M, ∃ x ∈ L, ∃ Mx, f x = some Mx ∧ y ∈ Mx
  | [], M, h => by simp [bindL] at h; subst h; simp
  | x :: r, M, h => by
    unfold bindL at h
    cases hx : f x with
    | none => rw [hx] at h; cases h
    | some Lx =>
      rw [hx] at h
      cases r with
      | nil =>
        simp at h; subst h
        exact ⟨fun y hy => by simp at hy; subst hy; exact ⟨_, hx, fun z hz => hz⟩, fun y hy => ⟨x, by simp, _, hx, hy⟩⟩
      | cons z r' =>
        simp only at h
        cases hr : bindL (z :: r') f with
        | none => rw [hr] at h; cases h
        | some M' =>
          rw [hr] at h
          injection h with h; subst h
          obtain ⟨h1, h2⟩ := bindL_spec hr
          refine ⟨fun y hy => ?_, fun y hy => ?_⟩
          · rcases List.mem_cons.1 hy with rfl | hy
            · exact ⟨_, hx, fun z hz => List.mem_append_left _ hz⟩
            · obtain ⟨Mx, q1, q2⟩ := h1 y hy
              exact ⟨Mx, q1, fun z hz => List.mem_append_right _ (q2 z hz)⟩
          · rcases List.mem_append.1 hy with hy | hy
            · exact ⟨x, by simp, _, hx, hy⟩
            · obtain ⟨w, q1, Mx, q2, q3⟩ := h2 y hy
              exact ⟨w, List.mem_cons_of_mem _ q1, Mx, q2, q3⟩

/-- What is asked of what calls are told by. -/
def ClOk (P : Program) (cl : AV → List AV → List AO → Option (List Res)) : Prop := ∀ fv args st L, cl fv args st = some L → LOk P st → (∀ r ∈ L, Kp P st r.2.1 r.2.2) ∧ AFn P fv args st (fun x s => ∃ r ∈ L, x = r.1 ∧ s = r.2.1)

section
variable {P : Program} {N : Nat} {rd : Option Nat} {en : Env} {mk : List Nat} {st : List AO}

theorem evOC_ok {cl : AV → List AV → List AO → Option (List Res)} (hcl : ClOk P cl) {ao : AOp} {L : List Res} {K : AV → List AO → Prop} (h : evOC cl ao en st = some L) (hL : LOk P st) :
    (∀ r ∈ L, Kp P st r.2.1 r.2.2) ∧ ((∀ r ∈ L, K r.1 r.2.1) → opC P N rd mk ao en st K) := by
  have gen : evO ao en st = some L → (∀ r ∈ L, Kp P st r.2.1 r.2.2) ∧ ((∀ r ∈ L, K r.1 r.2.1) → opC P N rd mk ao en st K) := fun h => ⟨evO_kp h, fun hK => evO_ok h hK⟩
  cases ao with
  | call f args =>
    obtain ⟨h1, h2⟩ := hcl _ _ _ _ h hL
    refine ⟨h1, fun hK => ?_⟩
    exact AFn.mono h2 (fun x s ⟨r, hr, e1, e2⟩ => by rw [e1, e2]; exact hK r hr)
  | _ => exact gen h

theorem Kp.dead {g : Nat} : Kp P st (st.set g .dead) g := Kp.set rfl

theorem foldl_min_le : ∀ (l : List Nat) (a : Nat), l.foldl min a ≤ a ∧ ∀ x ∈ l, l.foldl min a ≤ x
  | [], a => by simp
  | x :: l, a => by
    obtain ⟨h1, h2⟩ := foldl_min_le l (min a x)
    simp only [List.foldl_cons]
    refine ⟨by omega, fun y hy => ?_⟩
    rcases List.mem_cons.1 hy with rfl | hy
    · omega
    · exact h2 y hy

theorem preF_kp {ts : List Nat} : ∀ {gs : List Nat} {en : Env} {st : List AO} {lo : Nat}, (∀ g ∈ gs, lo ≤ g) → Kp P st (preF ts gs en st).2 lo
  | [], en, st, lo, _ => .refl _
  | g :: gs, en, st, lo, h => by
    have h1 : Kp P st (st.set g .dead) lo := Kp.lower Kp.dead (h g (by simp))
    have h2 := preF_kp (ts := ts) (gs := gs) (en := thawE ts st g en) (st := st.set g .dead) (lo := lo) (fun x hx => h x (by simp [hx]))
    have := h1.trans h2
    rwa [Nat.min_self] at this

theorem preO_kp {op : AOp} : Kp P st (preO op en st).2 (preL op en) := by
  unfold preO preL
  split
  · exact .refl _
  · rename_i g gs hg
    rw [hg]
    exact preF_kp (fun x hx => (foldl_min_le _ _).2 x hx)

theorem evOps_ok {cl : AV → List AV → List AO → Option (List Res)} (hcl : ClOk P cl) {K : Env → List AO → Prop} : ∀ {l : List AI} {en : Env} {st : List AO} {lo : Nat} {M : List (Env × List AO × Nat)} {st0 : List AO}, evOps cl l en st lo = some M → LOk P st → Kp P st0 st lo →
    (∀ m ∈ M, Kp P st0 m.2.1 m.2.2) ∧ ((∀ m ∈ M, K m.1 m.2.1) → opsC P N rd mk l en st K)
  | [], en, st, lo, M, st0, h, hL, hk => by
    simp [evOps] at h; subst h
    exact ⟨fun m hm => by simp at hm; subst hm; exact hk, fun hK => hK (en, st, lo) (by simp)⟩
  | i :: r, en, st, lo, M, st0, h, hL, hk => by
    simp only [evOps] at h
    have run : (match evOC cl i.op (preO i.op en st).1 (preO i.op en st).2 with
        | none => none
        | some L => bindL L fun (x, s, l) => evOps cl r (putE en i.dst x) s (min lo (min l (preL i.op en)))) = some M →
        (∀ m ∈ M, Kp P st0 m.2.1 m.2.2) ∧ ((∀ m ∈ M, K m.1 m.2.1) → opC P N rd mk i.op (preO i.op en st).1 (preO i.op en st).2 (fun x st' => opsC P N rd mk r (putE en i.dst x) st' K)) := by
      intro h
      cases hc : evOC cl i.op (preO i.op en st).1 (preO i.op en st).2 with
      | none => rw [hc] at h; cases h
      | some L =>
        rw [hc] at h
        obtain ⟨b1, b2⟩ := bindL_spec h
        have kpre : Kp P st (preO i.op en st).2 (preL i.op en) := preO_kp
        have hL1 := kpre.ok hL
        obtain ⟨k1, _⟩ := evOC_ok (N := N) (rd := rd) (mk := mk) (K := fun _ _ => True) hcl hc hL1
        have kk : ∀ r' ∈ L, Kp P st0 r'.2.1 (min lo (min r'.2.2 (preL i.op en))) := fun r' hr' => by
          have := hk.trans (kpre.trans (k1 r' hr'))
          exact this.lower (by omega)
        refine ⟨fun m hm => ?_, fun hK => ?_⟩
        · obtain ⟨r', hr', Mx, q1, q2⟩ := b2 m hm
          exact (evOps_ok (K := fun _ _ => True) hcl q1 ((k1 r' hr').ok hL1) (kk r' hr')).1 m q2
        · refine (evOC_ok hcl hc hL1).2 (fun r' hr' => ?_)
          obtain ⟨Mx, q1, q2⟩ := b1 r' hr'
          exact (evOps_ok hcl q1 ((k1 r' hr').ok hL1) (kk r' hr')).2 (fun m hm => hK m (q2 m hm))
    simp only [opsC]
    cases hg : i.g with
    | none =>
      rw [hg] at h
      simp only [guardV] at h
      exact run h
    | some p =>
      obtain ⟨t, w⟩ := p
      rw [hg] at h
      simp only [guardV] at h ⊢
      cases he : en.get t with
      | sc v =>
        cases v with
        | bool b =>
          simp only [he] at h ⊢
          by_cases hb : b = w
          · subst hb
            simp only [BEq.rfl, if_true] at h ⊢
            exact run h
          · have hbw : (b == w) = false := by simpa using hb
            simp only [hbw, hb, if_false] at h ⊢
            exact evOps_ok hcl h hL hk
        | _ => simp only [he] at h; cases h
      | tup l =>
        cases l with
        | nil =>
          simp only [he] at h ⊢
          exact evOps_ok hcl h hL hk
        | cons _ _ => simp only [he] at h; cases h
      | _ => simp only [he] at h; cases h

end
end Go.AW

/-
  AW, part 22: the evaluator's drawn regions are right.
-/
namespace Go.AW
open Go Go.RowKit
set_option linter.unusedVariables false
set_option linter.unusedSimpArgs false

theorem valEq_eq {a b : Value} (h : valEq a b = true) : a = b := by
  unfold valEq at h
  split at h
  · simpa using h
  · simpa using h
  · rw [babeq h]
  · rfl
  · rfl
  · rfl
  · rfl
  · cases h

mutual
theorem AV.beq_eq : ∀ (a b : AV), a.beq b = true → a = b
  | .any, b, h => by cases b <;> simp [AV.beq] at h <;> rfl
  | .sc x, b, h => by cases b <;> simp [AV.beq] at h; rw [valEq_eq h]
  | .agg x, b, h => by cases b <;> simp [AV.beq] at h; rw [AV.beqL_eq _ _ h]
  | .tup x, b, h => by cases b <;> simp [AV.beq] at h; rw [AV.beqL_eq _ _ h]
  | .sl c x, b, h => by cases b <;> simp [AV.beq] at h; rw [h.1, AV.beqL_eq _ _ h.2]
  | .acc g n, b, h => by cases b <;> simp [AV.beq] at h; rw [h.1, h.2]
  | .ref i o, b, h => by cases b <;> simp [AV.beq] at h; rw [h.1, h.2]
  | .ep s z i o, b, h => by
    cases b <;> simp [AV.beq] at h
    rw [AV.beq_eq _ _ h.1.1.1, h.1.1.2, h.1.2, h.2]
  | .mp i, b, h => by cases b <;> simp [AV.beq] at h; rw [h]
  | .fn f k x, b, h => by cases b <;> simp [AV.beq] at h; rw [h.1.1, h.1.2, AV.beqL_eq _ _ h.2]
  | .yl i, b, h => by cases b <;> simp [AV.beq] at h; rw [h]
  | .av g N z l n, b, h => by
    cases b <;> simp [AV.beq] at h
    rw [h.1.1.1.1, h.1.1.1.2, h.1.1.2, h.1.2, h.2]
theorem AV.beqL_eq : ∀ (a b : List AV), AV.beqL a b = true → a = b
  | [], b, h => by cases b <;> simp [AV.beqL] at h; rfl
  | x :: r, b, h => by
    cases b <;> simp [AV.beqL] at h
    rw [AV.beq_eq _ _ h.1, AV.beqL_eq _ _ h.2]
end

section
variable {P : Program} {N : Nat} {rd : Option Nat} {en : Env} {mk : List Nat} {st : List AO}

theorem Kp.same {s : List AO} {lo : Nat} (h : Kp P st s lo) (h1 : st.length ≤ lo) (h2 : s.length = st.length) : s = st := by
  apply List.ext_getElem?
  intro i
  by_cases hi : i < st.length
  · exact h.lo i (by omega) hi
  · rw [List.getElem?_eq_none (by omega), List.getElem?_eq_none (by omega)]

theorem evSame_ok {cl : AV → List AV → List AO → Option (List Res)} (hcl : ClOk P cl) {ao : AOp} {x : AV} (h : evSame cl ao en x st = true) (hL : LOk P st) :
    opC P N rd mk ao en st (fun y s => y = x ∧ s = st) := by
  unfold evSame at h
  split at h
  · rename_i y s lo hc
    simp only [Bool.and_eq_true, decide_eq_true_eq] at h
    obtain ⟨k1, k2⟩ := evOC_ok (N := N) (rd := rd) (mk := mk) hcl hc hL
    refine k2 (fun r hr => ?_)
    simp only [List.mem_singleton] at hr
    subst hr
    exact ⟨(AV.beq_eq _ _ h.1.1).symm, (k1 (y, s, lo) (by simp)).same h.1.2 h.2⟩
  · cases h

def pendP (P : Program) (N : Nat) (rd : Option Nat) (mk : List Nat) (p : Nat × AOp × Env × AV) : Nat × (List AO → Prop) :=
  (p.1, fun s => opC P N rd mk p.2.1 p.2.2.1 s (fun y s' => y = p.2.2.2 ∧ s' = s))

theorem evDraw_ok {cl : AV → List AV → List AO → Option (List Res)} (hcl : ClOk P cl) {K : Env → List AO → Prop} : ∀ {l : List DI} {en : Env} {st : List AO} {lo : Nat} {hist : List (List AO)} {pend : List (Nat × AOp × Env × AV)} {M : Env × List AO × Nat} {st0 : List AO},
    evDraw cl l en st lo hist pend = some M → LOk P st → (∀ q ∈ hist, LOk P q) → Kp P st0 st lo →
    Kp P st0 M.2.1 M.2.2 ∧ (K M.1 M.2.1 → drawC P N rd mk l en st hist (pend.map (pendP P N rd mk)) K)
  | [], en, st, lo, hist, pend, M, st0, h, hL, hH, hk => by
    simp [evDraw] at h; subst h
    exact ⟨hk, fun hK => hK⟩
  | d :: r, en, st, lo, hist, pend, M, st0, h, hL, hH, hk => by
    have pm : ∀ s, LOk P s → (pend.all fun p => p.1 == 0 || evSame cl p.2.1 p.2.2.1 p.2.2.2 s) = true → ∀ p ∈ pend.map (pendP P N rd mk), 0 < p.1 → p.2 s := by
      intro s hs ha p hp hp0
      obtain ⟨q, hq, rfl⟩ := List.mem_map.1 hp
      have := List.all_eq_true.1 ha q hq
      simp only [Bool.or_eq_true, beq_iff_eq] at this
      rcases this with h1 | h1
      · simp only [pendP] at hp0; omega
      · exact evSame_ok hcl h1 hs
    have pmap : (pend.map fun p => (p.1 - 1, p.2)).map (pendP P N rd mk) = (pend.map (pendP P N rd mk)).map fun p => (p.1 - 1, p.2) := by
      simp only [List.map_map]
      congr 1
    simp only [evDraw] at h
    simp only [drawC]
    cases hg : guardV d.i.g en with
    | none => rw [hg] at h; cases h
    | some b =>
      cases b with
      | false =>
        rw [hg] at h
        simp only at h ⊢
        by_cases hk2 : d.k = 2
        · simp only [hk2] at h ⊢
          split at h
          · rename_i ha
            have ih := evDraw_ok (K := K) hcl h hL (fun q hq => by rcases List.mem_cons.1 hq with rfl | hq; exact hL; exact hH q hq) hk
            refine ⟨ih.1, fun hK => ⟨pm st hL ha, ?_⟩⟩
            rw [← pmap]; exact ih.2 hK
          · cases h
        · split at h
          · rename_i h2; exact absurd h2 hk2
          · split
            · rename_i h2; exact absurd h2 hk2
            · exact evDraw_ok hcl h hL hH hk
      | true =>
        rw [hg] at h
        simp only at h ⊢
        split at h
        · rename_i x s l hc
          obtain ⟨k1, k2⟩ := evOC_ok (N := N) (rd := rd) (mk := mk) (K := fun y z => y = x ∧ z = s) hcl hc hL
          have kx := k1 (x, s, l) (by simp)
          have ox := k2 (fun r hr => by simp only [List.mem_singleton] at hr; subst hr; exact ⟨rfl, rfl⟩)
          simp only at kx
          split at h
          · rename_i hk2
            split at h
            · rename_i ha
              have hLs := kx.ok hL
              have ih := evDraw_ok (K := K) hcl h hLs (fun q hq => by rcases List.mem_cons.1 hq with rfl | hq; exact hL; exact hH q hq) (hk.trans kx)
              refine ⟨ih.1, fun hK => ?_⟩
              simp only [hk2]
              refine ⟨x, s, ox, pm s hLs ha, ?_⟩
              rw [← pmap]; exact ih.2 hK
            · cases h
          · rename_i hk0
            split at h
            · rename_i ha
              simp only [Bool.and_eq_true, decide_eq_true_eq] at ha
              have hs := kx.same ha.1 ha.2
              subst hs
              have ih := evDraw_ok (K := K) hcl h hL hH hk
              refine ⟨ih.1, fun hK => ?_⟩
              simp only [hk0]
              exact ⟨x, ox, ih.2 hK⟩
            · cases h
          · rename_i hk2 hk0
            split at h
            · rename_i ha
              simp only [Bool.and_eq_true, decide_eq_true_eq] at ha
              have hs := kx.same ha.1.1 ha.1.2
              subst hs
              have ih := evDraw_ok (K := K) hcl h hL hH hk
              refine ⟨ih.1, fun hK => ?_⟩
              split
              · rename_i h2; exact absurd h2 (fun e => hk2 e)
              · rename_i h2; exact absurd h2 (fun e => hk0 e)
              refine ⟨x, ox, fun q hq => ?_, ?_⟩
              · exact evSame_ok hcl (List.all_eq_true.1 ha.2 q hq) (hH q (List.mem_of_mem_take hq))
              · have := ih.2 hK
                split
                · rename_i hf; rw [if_pos hf] at this; exact this
                · rename_i hf; rw [if_neg hf] at this; exact this
            · cases h
        · cases h

end
end Go.AW

/-
  AW, part 23: the evaluator is right.
-/
namespace Go.AW
open Go Go.RowKit
set_option linter.unusedVariables false
set_option linter.unusedSimpArgs false

section
variable {P : Program} {N : Nat} {rd : Option Nat} {en : Env} {mk : List Nat} {st : List AO}

/-- A loop, round by round. -/
def RoundsA (P : Program) (N : Nat) (rd : Option Nat) (b : AC) (Q : AQ) : Nat → Env → List Nat → List AO → Prop
  | 0, _, _, _ => False
  | m + 1, en, mk, st => wpC P N rd b en mk st (fun x en' mk' st' => match x with
    | .normal => ∃ E, E.sub en' ∧ RoundsA P N rd b Q m E mk' st'
    | x => Q x en' mk' st')

theorem ER.sub {c : Cx} {E en : Env} {tmps : Array Value} (h : E.sub en) (hE : ER c en N tmps) : ER c E N tmps := by
  refine ⟨hE.1, fun i => ?_⟩
  rcases h i with h | h
  · exact .inl h
  · rw [h]; exact hE.2 i

theorem loopW_rounds {b : AC} {Q : AQ} {m : Nat} (h : RoundsA P N rd b Q m en mk st) : LoopW P N rd b en mk st Q := by
  intro c hc F n a w ρ D hF hW hE hM
  refine wpIn_loop_rounds m ?_
  have key : ∀ m a' w' en' mk' st' ρ' D', RoundsA P N rd b Q m en' mk' st' → WR ⟨w', ρ', D', st'⟩ → ER ⟨w', ρ', D', st'⟩ en' N a'.tmps → MR ρ' mk' a'.defers → Ext ⟨w, ρ, D, st⟩ ⟨w', ρ', D', st'⟩ →
      Code.roundsIn F n P c (fun e a w' => APost N ⟨w, ρ, D, st⟩ Q e a w') m a' w' := by
    intro m
    induction m with
    | zero => intro a' w' en' mk' st' ρ' D' h; exact h.elim
    | succ m ih =>
      intro a' w' en' mk' st' ρ' D' h h1 h2 h3 h4
      rw [roundsIn_succ]
      refine wpIn_mono (wpC_ok hc h F n a' w' ρ' D' (FR.ext h4 hF) h1 h2 h3) ?_
      rintro e a'' w'' ⟨x, en2, mk2, st2, ρ2, D2, rfl, q1, q2, q3, q4, q5⟩
      cases x with
      | normal =>
        obtain ⟨E, hE2, hr⟩ := q5
        exact ih a'' w'' E mk2 st2 ρ2 D2 hr q1 (ER.sub hE2 q2) q3 (h4.trans q4)
      | exit id => exact ⟨.exit id, en2, mk2, st2, ρ2, D2, rfl, q1, q2, q3, h4.trans q4, q5⟩
      | ret => exact ⟨.ret, en2, mk2, st2, ρ2, D2, rfl, q1, q2, q3, h4.trans q4, q5⟩
  exact key m a w en mk st ρ D h hW hE hM (.refl _)

theorem prune_sub : ∀ {en : Env} {seen : Nat} {t : Nat}, (prune seen en).get t = .any ∨ (prune seen en).get t = en.get t
  | [], seen, t => .inl rfl
  | (k, v) :: r, seen, t => by
    have no : ∀ (en : Env) (seen : Nat) t, seen.testBit t = true → (prune seen en).get t = .any := by
      intro en
      induction en with
      | nil => intro seen t _; rfl
      | cons p r ih =>
        obtain ⟨k, v⟩ := p
        intro seen t ht
        simp only [prune]
        split
        · exact ih seen t ht
        · rename_i hk
          simp only [Env.get]
          have : t ≠ k := by rintro rfl; exact hk ht
          rw [if_neg this]
          exact ih _ t (by simp [Nat.testBit_or, ht])
    simp only [prune]
    split
    · rename_i hk
      by_cases ht : t = k
      · subst ht; exact .inl (no r seen t hk)
      · simp only [Env.get]; rw [if_neg ht]; exact prune_sub
    · rename_i hk
      simp only [Env.get]
      by_cases ht : t = k
      · rw [if_pos ht, if_pos ht]; exact .inr rfl
      · rw [if_neg ht, if_neg ht]; exact prune_sub

/-- What is asked of an evaluator of code. -/
def EvOk (P : Program) (F : Nat → Option Nat → AC → Env → List Nat → List AO → Option (List Out)) : Prop :=
  ∀ N rd ac en mk st L, F N rd ac en mk st = some L → (∃ c, comp P N c = ac) → LOk P st →
    (∀ o ∈ L, Kp P st o.2.2.2.1 o.2.2.2.2) ∧ ∀ Q : AQ, (∀ o ∈ L, Q o.1 o.2.1 o.2.2.1 o.2.2.2.1) → wpC P N rd ac en mk st Q

/-- What is asked of a table. -/
structure TabOk (P : Program) (T : Tab) : Prop where
  fn : ∀ f N ac rv, T.fn f = some (N, ac, rv) → ∃ fn cd, P.funcs[f]? = some fn ∧ fn.body = some cd ∧ (fn.name == "runtime.NumGoroutine") = false ∧ fn.ntmps = N ∧ comp P N cd = ac ∧ compR P fn.results.toList = some rv
  orc : ∀ f xs st L, T.orc f xs st = some L → LOk P st → (∀ r ∈ L, Kp P st r.2.1 r.2.2) ∧ ACall P f xs st (fun x s => ∃ r ∈ L, x = r.1 ∧ s = r.2.1)
  body : ∀ f, T.body f = true → ∀ vs w, (callFunc f vs).run P w = .ok (.enter f vs) w

theorem AO.okB_ok {m : Nat} {o : AO} (h : o.okB m = true) : o.ok m := by
  cases o <;> simp only [AO.okB, AO.ok] at h ⊢
  · exact h
  · simpa using h
  · exact fun t => okE_get h t

theorem Kp.turn {i : Nat} {ps : List Nat} {asg body : Code} {A B : AC} {ls ls' : LoopState} {pend pend' : Option Code} (h : st[i]? = some (.loop N en ps asg body A B ls pend)) : Kp P st (st.set i (.loop N en ps asg body A B ls' pend')) i := by
  have hl := (List.getElem?_eq_some_iff.1 h).1
  have old : ∀ k, k ≠ i → (st.set i (.loop N en ps asg body A B ls' pend'))[k]? = st[k]? := fun k hk => List.getElem?_set_ne (Ne.symm hk)
  have self : (st.set i (.loop N en ps asg body A B ls' pend'))[i]? = some (.loop N en ps asg body A B ls' pend') := List.getElem?_set_self hl
  refine ⟨by simp, fun k hk _ => old k (by omega), fun k N1 en1 ps1 asg1 body1 A1 B1 ls1 pend1 hk hc => ?_, fun ho k N1 en1 ps1 asg1 body1 A1 B1 ls1 pend1 hc => ?_⟩
  · by_cases hki : k = i
    · subst hki
      rw [self] at hc
      injection hc with hc; injection hc with e1 e2 e3 e4 e5 e6 e7 e8 e9
      subst e1; subst e2; subst e3; subst e4; subst e5; subst e6; subst e7
      exact ⟨_, _, h⟩
    · rw [old k hki] at hc; exact ⟨_, _, hc⟩
  · by_cases hki : k = i
    · subst hki
      rw [self] at hc
      injection hc with hc; injection hc with e1 e2 e3 e4 e5 e6 e7 e8 e9
      subst e1; subst e2; subst e3; subst e4; subst e5; subst e6; subst e7
      exact ho k _ _ _ _ _ _ _ _ _ h
    · rw [old k hki] at hc; exact ho k _ _ _ _ _ _ _ _ _ hc

theorem Kp.pushL {ps : List Nat} {asg body : Code} {A B : AC} {ls : LoopState} {pend : Option Code} (h : comp P N asg = A ∧ comp P N body = B ∧ ∀ p ∈ ps, p < N) (lo : Nat) : Kp P st (st ++ [.loop N en ps asg body A B ls pend]) lo := by
  have old : ∀ i, i < st.length → (st ++ [AO.loop N en ps asg body A B ls pend])[i]? = st[i]? := fun i hi => List.getElem?_append_left hi
  refine ⟨by simp, fun i _ hi => old i hi, fun i N1 en1 ps1 asg1 body1 A1 B1 ls1 pend1 hi hc => ⟨_, _, by rw [← old i hi]; exact hc⟩, fun ho i N1 en1 ps1 asg1 body1 A1 B1 ls1 pend1 hc => ?_⟩
  by_cases hi : i < st.length
  · rw [old i hi] at hc; exact ho i _ _ _ _ _ _ _ _ _ hc
  · have hi' : i = st.length := by
      have := (List.getElem?_eq_some_iff.1 hc).1
      simp at this; omega
    subst hi'
    simp at hc
    obtain ⟨e1, e2, e3, e4, e5, e6, e7, e8, e9⟩ := hc
    subst e1; subst e2; subst e3; subst e4; subst e5; subst e6; subst e7
    exact h

theorem Kp.take {s : List AO} {lo m : Nat} (h : Kp P st s lo) (hm : st.length ≤ m) : Kp P st (s.take m) lo := by
  have get : ∀ (i : Nat) o, (s.take m)[i]? = some o → s[i]? = some o := fun i o ho => by
    rw [List.getElem?_take] at ho
    split at ho
    · exact ho
    · cases ho
  refine ⟨by have := h.len; rw [List.length_take]; omega, fun i hi hl => ?_, fun i N en ps asg body A B ls pend hi hc => h.lp i _ _ _ _ _ _ _ _ _ hi (get i _ hc), fun ho i N en ps asg body A B ls pend hc => h.ok ho i _ _ _ _ _ _ _ _ _ (get i _ hc)⟩
  rw [List.getElem?_take, if_pos (by omega)]
  exact h.lo i hi hl

theorem Kp.cap {s : List AO} {lo : Nat} (h : Kp P st s lo) : Kp P st s (if lo < st.length then lo else noLo) := by
  refine ⟨h.len, fun i hi hl => h.lo i ?_ hl, h.lp, h.ok⟩
  split at hi <;> omega

theorem marks_kp {m0 : Nat} : ∀ {mk : List Nat} {st st' : List AO}, (mk.all fun i => decide (m0 ≤ i)) = true → marksOk mk st = some st' → Kp P st st' m0 ∧ st'.length = st.length
  | [], st, st', _, h => by simp [marksOk] at h; subst h; exact ⟨.refl _, rfl⟩
  | i :: mk, st, st', ha, h => by
    simp only [List.all_cons, Bool.and_eq_true, decide_eq_true_eq] at ha
    simp only [marksOk] at h
    split at h
    · obtain ⟨k1, k2⟩ := marks_kp ha.2 h
      refine ⟨?_, by rw [k2]; simp⟩
      have := (Kp.dead (P := P) (st := st) (g := i)).trans k1
      exact this.lower (by omega)
    · cases h

theorem finM_ok {kp : Bool} {m0 : Nat} {s : List AO} {v : AV} (hl : m0 ≤ s.length) : m0 ≤ finM kp m0 s v ∧ finM kp m0 s v ≤ s.length ∧ (finM kp m0 s v = s.length ∨ ∀ (i : Nat) o, i < finM kp m0 s v → s[i]? = some o → o.ok (finM kp m0 s v)) := by
  unfold finM
  split
  · rename_i h
    refine ⟨Nat.le_refl _, hl, .inr fun i o hi ho => ?_⟩
    simp only [Bool.and_eq_true] at h
    refine AO.okB_ok (List.all_eq_true.1 h.2 o ?_)
    exact List.mem_of_getElem? (i := i) (by rw [List.getElem?_take, if_pos hi]; exact ho)
  · exact ⟨hl, Nat.le_refl _, .inl rfl⟩

theorem finM_ok' {kp : Bool} {m0 : Nat} {s : List AO} {v : AV} (hl : m0 ≤ s.length) : let m := if s.length = m0 then m0 else finM kp m0 s v
    m0 ≤ m ∧ m ≤ s.length ∧ (m = s.length ∨ ∀ (i : Nat) o, i < m → s[i]? = some o → o.ok m) := by
  intro m
  show m0 ≤ m ∧ _
  by_cases h : s.length = m0
  · have : m = m0 := if_pos h
    rw [this]
    exact ⟨Nat.le_refl _, hl, .inl h.symm⟩
  · have : m = finM kp m0 s v := if_neg h
    rw [this]
    exact finM_ok hl

theorem dedup_sub {m0 : Nat} : ∀ {R : List Res}, ∀ r ∈ dedup m0 R, r ∈ R
  | [], r, h => h
  | [a], r, h => h
  | a :: b :: R, r, h => by
    simp only [dedup, List.mem_cons, List.mem_filter] at h
    rcases h with h | ⟨h, _⟩
    · simp [h]
    · simp only [List.mem_cons]; exact .inr h

theorem dedup_all {R : List Res} (hk : ∀ r ∈ R, Kp P st r.2.1 r.2.2) : ∀ r ∈ R, ∃ r' ∈ dedup st.length R, r.1 = r'.1 ∧ r.2.1 = r'.2.1 := by
  intro r hr
  match R, hk, hr with
  | [], _, hr => cases hr
  | [a], _, hr => exact ⟨r, hr, rfl, rfl⟩
  | a :: b :: R, hk, hr =>
    rcases List.mem_cons.1 hr with rfl | hr'
    · exact ⟨r, by simp [dedup], rfl, rfl⟩
    · by_cases hs : sameRes st.length a r = true
      · refine ⟨a, by simp [dedup], ?_⟩
        simp only [sameRes, Bool.and_eq_true, decide_eq_true_eq] at hs
        obtain ⟨⟨⟨⟨h1, h2⟩, h3⟩, h4⟩, h5⟩ := hs
        have e1 := (hk a (by simp)).same h2 h4
        have e2 := (hk r hr).same h3 h5
        exact ⟨(AV.beq_eq _ _ h1).symm, by rw [e1, e2]⟩
      · refine ⟨r, ?_, rfl, rfl⟩
        simp only [dedup, List.mem_cons, List.mem_filter]
        exact .inr ⟨by simpa using hr', by simp [hs]⟩

theorem evFin_ok {kp : Bool} {rv : List RV} {o : Out} {R : List Res} (h : evFin kp rv st.length o = some R) (hk : Kp P st o.2.2.2.1 o.2.2.2.2) :
    (∀ r ∈ R, Kp P st r.2.1 r.2.2) ∧ ∀ K : AV → List AO → Prop, (∀ r ∈ R, K r.1 r.2.1) → FinQ rv st K o.1 o.2.1 o.2.2.1 o.2.2.2.1 := by
  obtain ⟨x, en, mk, s, lo⟩ := o
  replace hk : Kp P st s lo := hk
  have main : (if mk.all (fun i => decide (st.length ≤ i)) then match marksOk mk s with
    | none => none
    | some st' => match resW rv en st' with
      | none => none
      | some v =>
        let m := if st'.length = st.length then st.length else finM kp st.length st' v
        some [(v.frz st' m, st'.take m, if lo < st.length then lo else noLo)]
    else none) = some R → (∀ r ∈ R, Kp P st r.2.1 r.2.2) ∧ ∀ K : AV → List AO → Prop, (∀ r ∈ R, K r.1 r.2.1) → (match marksOk mk s with
      | none => False
      | some st'' => match resW rv en st'' with
        | some v => Fin st K v st''
        | none => False) := by
    intro h
    split at h
    · rename_i ha
      cases hm : marksOk mk s with
      | none => rw [hm] at h; cases h
      | some s' =>
        rw [hm] at h
        simp only at h ⊢
        cases hv : resW rv en s' with
        | none => rw [hv] at h; cases h
        | some v =>
          rw [hv] at h
          simp only at h ⊢
          injection h with h; subst h
          obtain ⟨k1, k2⟩ := marks_kp (P := P) ha hm
          have kk : Kp P st s' lo := by
            have h1 := hk.trans k1
            refine ⟨h1.len, fun i hi hl => h1.lo i (by omega) hl, h1.lp, h1.ok⟩
          obtain ⟨m1, m2, m3⟩ := finM_ok' (kp := kp) (v := v) kk.len
          generalize (if s'.length = st.length then st.length else finM kp st.length s' v) = m at m1 m2 m3
          refine ⟨fun r hr => ?_, fun K hK => ⟨m, m1, m2, m3.imp id (fun h i o hi ho => .inr (h i o hi ho)), .inl (hK _ (List.mem_singleton.2 rfl))⟩⟩
          simp only [List.mem_singleton] at hr; subst hr
          exact (kk.take m1).cap
    · cases h
  cases x with
  | exit id => simp [evFin] at h
  | normal => exact main h
  | ret => exact main h

theorem LOk.body {i : Nat} {ps : List Nat} {asg body : Code} {A B : AC} {ls : LoopState} {pend : Option Code} (h : LOk P st) (hi : st[i]? = some (.loop N en ps asg body A B ls pend)) : comp P N asg = A ∧ comp P N body = B ∧ ∀ p ∈ ps, p < N := h i _ _ _ _ _ _ _ _ _ hi

theorem evCall_ok {T : Tab} (hT : TabOk P T) {F : Nat → Option Nat → AC → Env → List Nat → List AO → Option (List Out)} (hF : EvOk P F) : ClOk P (evCall T F) := by
  intro fv args st L h hL
  cases fv with
  | fn f k caps =>
    simp only [evCall] at h
    cases ho : T.orc f (caps.take k ++ args ++ caps.drop k) st with
    | some L' =>
      rw [ho] at h
      simp only at h
      injection h with h; subst h
      exact hT.orc _ _ _ _ ho hL
    | none =>
      rw [ho] at h
      simp only at h
      cases hf : T.fn f with
      | none => rw [hf] at h; cases h
      | some q =>
        obtain ⟨N, ac, rv⟩ := q
        rw [hf] at h
        simp only at h
        split at h
        · rename_i hl
          cases hr : F N none ac (argE 0 (caps.take k ++ args ++ caps.drop k)) [] st with
          | none => rw [hr] at h; cases h
          | some M =>
            rw [hr] at h
            simp only at h
            cases hb : bindL M (evFin (T.keep f) rv st.length) with
            | none => rw [hb] at h; cases h
            | some R =>
              rw [hb] at h
              simp only at h
              injection h with h; subst h
              obtain ⟨fn, cd, h1, h2, h3, h4, h5, h6⟩ := hT.fn _ _ _ _ hf
              obtain ⟨e1, e2⟩ := hF _ _ _ _ _ _ _ hr ⟨cd, h5⟩ hL
              obtain ⟨b1, b2⟩ := bindL_spec hb
              have hkR : ∀ r ∈ R, Kp P st r.2.1 r.2.2 := fun r hr' => by
                obtain ⟨o, ho, Mx, q1, q2⟩ := b2 r hr'
                exact (evFin_ok q1 (e1 o ho)).1 r q2
              refine ⟨fun r hr' => hkR r (dedup_sub r hr'), ?_⟩
              refine acall_of h1 h2 h3 h4 hl h5 h6 (e2 _ fun o ho => ?_)
              obtain ⟨Mx, q1, q2⟩ := b1 o ho
              refine (evFin_ok q1 (e1 o ho)).2 _ (fun r hr' => ?_)
              obtain ⟨r', m1, m2, m3⟩ := dedup_all hkR r (q2 r hr')
              exact ⟨r', m1, m2, m3⟩
        · cases h
  | yl i =>
    simp only [evCall] at h
    split at h
    · rename_i N en ps asg body A B hi
      split at h
      · rename_i hc
        cases hr : F N (some i) A (putPs (ps.zip args) en) [] st with
        | none => rw [hr] at h; cases h
        | some M =>
          rw [hr] at h
          simp only at h
          obtain ⟨hA, hB, hps⟩ := hL.body hi
          obtain ⟨e1, e2⟩ := hF _ _ _ _ _ _ _ hr ⟨asg, hA⟩ hL
          obtain ⟨b1, b2⟩ := bindL_spec h
          -- one outcome of the assignment
          have one : ∀ o ∈ M, ∀ Mx, (match o with
              | (x, en1, mk1, st1, lo1) => match x, mk1, st1[i]? with
                | .normal, [], some (.loop N' en' ps' asg' body' A' B' .ready none) =>
                  match F N' (some i) B' en1 [] (st1.set i (.loop N' en' ps' asg' body' A' B' .busy none)) with
                  | none => none
                  | some M => bindL (M.map fun (x, e, k, s, l) => (x, e, k, s, min lo1 l)) (evRoundEnd i st.length)
                | _, _, _ => none) = some Mx → (∀ r ∈ Mx, Kp P st r.2.1 r.2.2) ∧ (∀ K : AV → List AO → Prop, (∀ r ∈ Mx, K r.1 r.2.1) →
                  o.1 = .normal ∧ o.2.2.1 = [] ∧ o.2.2.2.1[i]? = some (.loop N en ps asg body A B .ready none) ∧
                    AW P N (some i) body o.2.1 [] (o.2.2.2.1.set i (.loop N en ps asg body A B .busy none)) (RoundQ i N en ps asg body A B st K)) := by
            rintro ⟨x, en1, mk1, st1, lo1⟩ ho Mx hm
            simp only at hm
            have ko := e1 _ ho
            simp only at ko
            split at hm
            · rename_i N' en' ps' asg' body' A' B' hi1
              obtain ⟨ls', pend', hi0⟩ := ko.lp i _ _ _ _ _ _ _ _ _ (List.getElem?_eq_some_iff.1 hi).1 hi1
              rw [hi] at hi0
              injection hi0 with hi0; injection hi0 with q1 q2 q3 q4 q5 q6 q7 q8 q9
              subst q1; subst q2; subst q3; subst q4; subst q5; subst q6; subst q7
              have kt : Kp P st1 (st1.set i (.loop N en ps asg body A B .busy none)) i := .turn hi1
              cases hr2 : F N (some i) B en1 [] (st1.set i (.loop N en ps asg body A B .busy none)) with
              | none => rw [hr2] at hm; cases hm
              | some M2 =>
                rw [hr2] at hm
                simp only at hm
                have hL1 := kt.ok (ko.ok hL)
                obtain ⟨g1, g2⟩ := hF _ _ _ _ _ _ _ hr2 ⟨body, hB⟩ hL1
                obtain ⟨c1, c2⟩ := bindL_spec hm
                have end1 : ∀ o2 ∈ M2, ∀ My, evRoundEnd i st.length (o2.1, o2.2.1, o2.2.2.1, o2.2.2.2.1, min lo1 o2.2.2.2.2) = some My → (∀ r ∈ My, Kp P st r.2.1 r.2.2) ∧ ∀ K : AV → List AO → Prop, (∀ r ∈ My, K r.1 r.2.1) → RoundQ i N en ps asg body A B st K o2.1 o2.2.1 o2.2.2.1 o2.2.2.2.1 := by
                  rintro ⟨x2, en2, mk2, st2, lo2⟩ ho2 My he
                  have k2 := g1 _ ho2
                  simp only at k2 he ⊢
                  simp only [evRoundEnd] at he
                  split at he
                  · rename_i N' en' ps' asg' body' A' B' hi2
                    have hi1' : (st1.set i (.loop N en ps asg body A B .busy none))[i]? = some (.loop N en ps asg body A B .busy none) := List.getElem?_set_self (List.getElem?_eq_some_iff.1 hi1).1
                    obtain ⟨ls', pend', hi0⟩ := k2.lp i _ _ _ _ _ _ _ _ _ (List.getElem?_eq_some_iff.1 hi1').1 hi2
                    rw [hi1'] at hi0
                    injection hi0 with hi0; injection hi0 with q1 q2 q3 q4 q5 q6 q7 q8 q9
                    subst q1; subst q2; subst q3; subst q4; subst q5; subst q6; subst q7
                    have k3 : Kp P st2 (st2.set i (.loop N en ps asg body A B (if x2.pend.isNone then .ready else .done) x2.pend)) i := .turn hi2
                    have kall := ((ko.trans kt).trans k2).trans k3
                    generalize hs3 : st2.set i (.loop N en ps asg body A B (if x2.pend.isNone then .ready else .done) x2.pend) = s3 at he k3 kall
                    injection he with he; subst he
                    obtain ⟨m1, m2, m3⟩ := finM_ok' (kp := false) (v := .any) kall.len
                    generalize (if s3.length = st.length then st.length else finM false st.length s3 .any) = m at m1 m2 m3
                    refine ⟨fun r hr' => ?_, fun K hK => ⟨rfl, hi2, ?_⟩⟩
                    · simp only [List.mem_singleton] at hr'; subst hr'
                      have := kall.take m1
                      refine ⟨this.len, fun q hq hl => this.lo q ?_ hl, this.lp, this.ok⟩
                      simp only at hq
                      split at hq <;> omega
                    · rw [hs3]
                      refine ⟨m, m1, m2, m3.imp id (fun h i o hi ho => .inr (h i o hi ho)), .inl ?_⟩
                      exact hK _ (List.mem_singleton.2 rfl)
                  · cases he
                refine ⟨fun r hr' => ?_, fun K hK => ⟨rfl, rfl, hi1, ?_⟩⟩
                · obtain ⟨o2, ho2, My, q1, q2⟩ := c2 r hr'
                  obtain ⟨o3, ho3, rfl⟩ := List.mem_map.1 ho2
                  exact (end1 o3 ho3 My q1).1 r q2
                · refine wpC_ok hB (g2 _ fun o2 ho2 => ?_)
                  obtain ⟨My, q1, q2⟩ := c1 _ (List.mem_map.2 ⟨o2, ho2, rfl⟩)
                  exact (end1 o2 ho2 My q1).2 K (fun r hr' => hK r (q2 r hr'))
            · cases hm
          refine ⟨fun r hr' => ?_, ?_⟩
          · obtain ⟨o, ho, Mx, q1, q2⟩ := b2 r hr'
            exact (one o ho Mx q1).1 r q2
          · refine ayield_of hi hc.1 hps (wpC_ok hA (e2 _ fun o ho => ?_))
            obtain ⟨Mx, q1, q2⟩ := b1 o ho
            exact (one o ho Mx q1).2 _ (fun r hr' => ⟨r, q2 r hr', rfl, rfl⟩)
      · cases h
    · cases h
  | _ => simp [evCall] at h

end
end Go.AW

/-
  AW, part 24: the evaluator of code is right.
-/
namespace Go.AW
open Go Go.RowKit
set_option linter.unusedVariables false
set_option linter.unusedSimpArgs false

section
variable {P : Program} {N : Nat} {rd : Option Nat} {en : Env} {mk : List Nat} {st : List AO}

/-- What code was that is read so. -/
def Inv (P : Program) (N : Nat) : AC → Prop
  | .seq a b => (∃ c, comp P N c = a) ∧ ∃ c, comp P N c = b
  | .cond _ a b => (∃ c, comp P N c = a) ∧ ∃ c, comp P N c = b
  | .block _ b => ∃ c, comp P N c = b
  | .loop b => ∃ c, comp P N c = b
  | .rangeF _ _ asg body A B => comp P N asg = A ∧ comp P N body = B
  | _ => True

theorem comp_inv {ac : AC} (h : ∃ c, comp P N c = ac) : Inv P N ac := by
  obtain ⟨c, rfl⟩ := h
  cases c with
  | region id ops d =>
    cases d with
    | true =>
      simp only [comp]
      split
      · split <;> trivial
      · trivial
    | false =>
      simp only [comp]
      split <;> trivial
  | seq a b => exact ⟨⟨a, rfl⟩, b, rfl⟩
  | cond x a b => exact ⟨⟨a, rfl⟩, b, rfl⟩
  | block id b => exact ⟨b, rfl⟩
  | loop b => exact ⟨b, rfl⟩
  | rangeFunc f ps asg b => exact ⟨rfl, rfl⟩
  | _ => trivial

theorem tail_ok {f : Out → Option (List Out)} {g : Env → List Nat → List AO → Option (List Out)} {L R : List Out} (h : bindL L f = some R)
    (hn : ∀ en mk st lo, f (.normal, en, mk, st, lo) = (g en mk st).map fun M => M.map fun (x, e, k, s, l) => (x, e, k, s, min lo l))
    (hx : ∀ x en mk st lo, x ≠ .normal → f (x, en, mk, st, lo) = some [(x, en, mk, st, lo)])
    (hL : ∀ o ∈ L, Kp P st o.2.2.2.1 o.2.2.2.2) (hg : ∀ en1 mk1 st1 lo1, (AX.normal, en1, mk1, st1, lo1) ∈ L → ∀ M, g en1 mk1 st1 = some M → ∀ o ∈ M, Kp P st1 o.2.2.2.1 o.2.2.2.2) :
    (∀ r ∈ R, Kp P st r.2.2.2.1 r.2.2.2.2) ∧
    (∀ Q : AQ, (∀ r ∈ R, Q r.1 r.2.1 r.2.2.1 r.2.2.2.1) → (∀ en1 mk1 st1 lo1, (AX.normal, en1, mk1, st1, lo1) ∈ L → ∃ M, g en1 mk1 st1 = some M ∧ ∀ o ∈ M, Q o.1 o.2.1 o.2.2.1 o.2.2.2.1) ∧
      ∀ x en1 mk1 st1 lo1, (x, en1, mk1, st1, lo1) ∈ L → x ≠ .normal → Q x en1 mk1 st1) := by
  obtain ⟨b1, b2⟩ := bindL_spec h
  refine ⟨fun r hr => ?_, fun Q hQ => ⟨fun en1 mk1 st1 lo1 ho => ?_, fun x en1 mk1 st1 lo1 ho hne => ?_⟩⟩
  · obtain ⟨⟨x, en1, mk1, st1, lo1⟩, ho, Mx, q1, q2⟩ := b2 r hr
    by_cases hxn : x = .normal
    · subst hxn
      rw [hn] at q1
      cases hgm : g en1 mk1 st1 with
      | none => rw [hgm] at q1; cases q1
      | some M =>
        rw [hgm] at q1
        simp only [Option.map_some, Option.some.injEq] at q1
        subst q1
        obtain ⟨⟨x, e, k, s, l⟩, ho2, rfl⟩ := List.mem_map.1 q2
        exact (hL _ ho).trans (hg _ _ _ _ ho M hgm _ ho2)
    · rw [hx _ _ _ _ _ hxn] at q1
      injection q1 with q1; subst q1
      simp only [List.mem_singleton] at q2; subst q2
      exact hL _ ho
  · obtain ⟨Mx, q1, q2⟩ := b1 _ ho
    rw [hn] at q1
    cases hgm : g en1 mk1 st1 with
    | none => rw [hgm] at q1; cases q1
    | some M =>
      rw [hgm] at q1
      simp only [Option.map_some, Option.some.injEq] at q1
      subst q1
      exact ⟨M, rfl, fun o ho2 => hQ (o.1, o.2.1, o.2.2.1, o.2.2.2.1, min lo1 o.2.2.2.2) (q2 _ (List.mem_map.2 ⟨o, ho2, rfl⟩))⟩
  · obtain ⟨Mx, q1, q2⟩ := b1 _ ho
    rw [hx _ _ _ _ _ hne] at q1
    injection q1 with q1; subst q1
    exact hQ (x, en1, mk1, st1, lo1) (q2 _ (List.mem_singleton.2 rfl))

theorem evRangeEnd_ok {i : Nat} {ps : List Nat} {asg body : Code} {A B : AC} {r : Res} {M : List Out} {s0 : List AO} (h : evRangeEnd i en mk r = some M) (hk : Kp P s0 r.2.1 r.2.2) (hi : s0[i]? = some (.loop N en ps asg body A B .ready none)) :
    (∀ o ∈ M, Kp P s0 o.2.2.2.1 (min i r.2.2) ∧ o.2.2.2.2 = min i r.2.2) ∧ ∀ Q : AQ, (∀ o ∈ M, Q o.1 o.2.1 o.2.2.1 o.2.2.2.1) → RangeQ i N en ps asg body A B mk Q r.1 r.2.1 := by
  obtain ⟨v, s, lo⟩ := r
  simp only [evRangeEnd] at h
  split at h
  · rename_i N' en' ps' asg' body' A' B' ls pend hs
    obtain ⟨ls', pend', h0⟩ := hk.lp i _ _ _ _ _ _ _ _ _ (List.getElem?_eq_some_iff.1 hi).1 hs
    rw [hi] at h0
    injection h0 with h0; injection h0 with q1 q2 q3 q4 q5 q6 q7 q8 q9
    subst q1; subst q2; subst q3; subst q4; subst q5; subst q6; subst q7
    have kd : Kp P s0 (s.set i .dead) (min i lo) := by
      have := hk.trans (Kp.dead (P := P) (st := s) (g := i))
      exact this.lower (by simp only; omega)
    split at h
    · cases h
    · rename_i hb
      injection h with h; subst h
      refine ⟨fun o ho => by simp only [List.mem_singleton] at ho; subst ho; exact ⟨kd, rfl⟩, fun Q hQ => ⟨ls, .normal, hs, fun e => hb e, hQ _ (List.mem_singleton.2 rfl)⟩⟩
    · rename_i hb
      injection h with h; subst h
      refine ⟨fun o ho => by simp only [List.mem_singleton] at ho; subst ho; exact ⟨kd, rfl⟩, fun Q hQ => ⟨ls, .ret, hs, fun e => hb e, hQ _ (List.mem_singleton.2 rfl)⟩⟩
    · rename_i id hb
      injection h with h; subst h
      refine ⟨fun o ho => by simp only [List.mem_singleton] at ho; subst ho; exact ⟨kd, rfl⟩, fun Q hQ => ⟨ls, .exit id, hs, fun e => hb e, hQ _ (List.mem_singleton.2 rfl)⟩⟩
    · cases h
  · cases h

theorem ev_ok {T : Tab} (hT : TabOk P T) : ∀ n, EvOk P (ev T n) ∧ ∀ N rd b en mk st L, ev T n N rd (.loop b) en mk st = some L → (∃ c, comp P N c = b) → LOk P st → ∀ Q : AQ, (∀ o ∈ L, Q o.1 o.2.1 o.2.2.1 o.2.2.2.1) → RoundsA P N rd b Q n en mk st
  | 0 => ⟨fun N rd ac en mk st L h => by simp [ev] at h, fun N rd b en mk st L h => by simp [ev] at h⟩
  | n + 1 => by
    obtain ⟨ih, ihL⟩ := ev_ok hT n
    have hcl : ClOk P (evCall T (ev T n)) := evCall_ok hT ih
    -- loops
    have lp : ∀ N rd b en mk st L, ev T (n + 1) N rd (.loop b) en mk st = some L → (∃ c, comp P N c = b) → LOk P st →
        (∀ o ∈ L, Kp P st o.2.2.2.1 o.2.2.2.2) ∧ ∀ Q : AQ, (∀ o ∈ L, Q o.1 o.2.1 o.2.2.1 o.2.2.2.1) → RoundsA P N rd b Q (n + 1) en mk st := by
      intro N rd b en mk st L h hc hL
      simp only [ev] at h
      cases h1 : ev T n N rd b en mk st with
      | none => rw [h1] at h; cases h
      | some L1 =>
        rw [h1] at h
        simp only at h
        obtain ⟨e1, e2⟩ := ih _ _ _ _ _ _ _ h1 hc hL
        obtain ⟨t1, t2⟩ := tail_ok (P := P) (g := fun en mk st => ev T n N rd (.loop b) (prune 0 en) mk st) h (fun _ _ _ _ => rfl) (fun x _ _ _ _ hx => by cases x <;> first | rfl | exact absurd rfl hx) e1
          (fun en1 mk1 st1 lo1 ho M hM => (ih _ _ _ _ _ _ _ hM (by obtain ⟨c, hc⟩ := hc; exact ⟨.loop c, by simp [comp, hc]⟩) ((e1 _ ho).ok hL)).1)
        refine ⟨t1, fun Q hQ => ?_⟩
        simp only [RoundsA]
        refine e2 _ fun o ho => ?_
        obtain ⟨x, en1, mk1, st1, lo1⟩ := o
        obtain ⟨u1, u2⟩ := t2 Q hQ
        cases x with
        | normal =>
          obtain ⟨M, m1, m2⟩ := u1 _ _ _ _ ho
          exact ⟨_, fun i => prune_sub, ihL _ _ _ _ _ _ _ m1 hc ((e1 _ ho).ok hL) Q m2⟩
        | ret => exact u2 _ _ _ _ _ ho (by simp)
        | exit id => exact u2 _ _ _ _ _ ho (by simp)
    refine ⟨?_, fun N rd b en mk st L h hc hL => (lp N rd b en mk st L h hc hL).2⟩
    intro N rd ac en mk st L h hc hL
    have hi := comp_inv hc
    cases ac with
    | skip => simp [ev] at h; subst h; exact ⟨fun o ho => by simp at ho; subst ho; exact .refl _, fun Q hQ => hQ _ (List.mem_singleton.2 rfl)⟩
    | ret => simp [ev] at h; subst h; exact ⟨fun o ho => by simp at ho; subst ho; exact .refl _, fun Q hQ => hQ _ (List.mem_singleton.2 rfl)⟩
    | exit id => simp [ev] at h; subst h; exact ⟨fun o ho => by simp at ho; subst ho; exact .refl _, fun Q hQ => hQ _ (List.mem_singleton.2 rfl)⟩
    | raw c => simp [ev] at h
    | loop b =>
      obtain ⟨l1, l2⟩ := lp N rd b en mk st L h hi hL
      exact ⟨l1, fun Q hQ => loopW_rounds (l2 Q hQ)⟩
    | seq a b =>
      simp only [ev] at h
      cases h1 : ev T n N rd a en mk st with
      | none => rw [h1] at h; cases h
      | some L1 =>
        rw [h1] at h
        simp only at h
        obtain ⟨e1, e2⟩ := ih _ _ _ _ _ _ _ h1 hi.1 hL
        obtain ⟨t1, t2⟩ := tail_ok (P := P) (g := fun en mk st => ev T n N rd b en mk st) h (fun _ _ _ _ => rfl) (fun x _ _ _ _ hx => by cases x <;> first | rfl | exact absurd rfl hx) e1
          (fun en1 mk1 st1 lo1 ho M hM => (ih _ _ _ _ _ _ _ hM hi.2 ((e1 _ ho).ok hL)).1)
        refine ⟨t1, fun Q hQ => ?_⟩
        refine e2 _ fun o ho => ?_
        obtain ⟨x, en1, mk1, st1, lo1⟩ := o
        obtain ⟨u1, u2⟩ := t2 Q hQ
        cases x with
        | normal =>
          obtain ⟨M, m1, m2⟩ := u1 _ _ _ _ ho
          exact (ih _ _ _ _ _ _ _ m1 hi.2 ((e1 _ ho).ok hL)).2 Q m2
        | ret => exact u2 _ _ _ _ _ ho (by simp)
        | exit id => exact u2 _ _ _ _ _ ho (by simp)
    | cond x a b =>
      simp only [ev] at h
      split at h
      · rename_i v hv
        cases v with
        | true =>
          obtain ⟨e1, e2⟩ := ih _ _ _ _ _ _ _ h hi.1 hL
          refine ⟨e1, fun Q hQ => ?_⟩
          simp only [wpC, hv]
          exact ⟨fun _ => e2 Q hQ, (fun h => by cases h)⟩
        | false =>
          obtain ⟨e1, e2⟩ := ih _ _ _ _ _ _ _ h hi.2 hL
          refine ⟨e1, fun Q hQ => ?_⟩
          simp only [wpC, hv]
          exact ⟨(fun h => by cases h), fun _ => e2 Q hQ⟩
      · cases h
    | block id b =>
      simp only [ev] at h
      cases h1 : ev T n N rd b en mk st with
      | none => rw [h1] at h; cases h
      | some L1 =>
        rw [h1] at h
        simp only at h
        injection h with h; subst h
        obtain ⟨e1, e2⟩ := ih _ _ _ _ _ _ _ h1 hi hL
        refine ⟨fun o ho => ?_, fun Q hQ => ?_⟩
        · obtain ⟨⟨x, en1, mk1, st1, lo1⟩, ho1, rfl⟩ := List.mem_map.1 ho
          cases x with
          | normal => exact e1 _ ho1
          | ret => exact e1 _ ho1
          | exit i =>
            have := e1 _ ho1
            simp only
            split <;> exact this
        · refine e2 _ fun o ho => ?_
          obtain ⟨x, en1, mk1, st1, lo1⟩ := o
          have := hQ _ (List.mem_map.2 ⟨_, ho, rfl⟩)
          cases x with
          | normal => exact this
          | ret => exact this
          | exit i =>
            simp only [blockQ] at this ⊢
            split
            · rename_i he; subst he; simpa using this
            · rename_i he; simpa [he] using this
    | reg ops =>
      simp only [ev] at h
      cases h1 : evOps (evCall T (ev T n)) ops en st noLo with
      | none => rw [h1] at h; cases h
      | some M =>
        rw [h1] at h
        simp only at h
        injection h with h; subst h
        refine ⟨fun o ho => ?_, fun Q hQ => ?_⟩
        · obtain ⟨m, hm, rfl⟩ := List.mem_map.1 ho
          exact (evOps_ok (N := N) (rd := rd) (mk := mk) (K := fun _ _ => True) hcl h1 hL (.refl _)).1 m hm
        · exact (evOps_ok hcl h1 hL (.refl _)).2 (fun m hm => hQ _ (List.mem_map.2 ⟨m, hm, rfl⟩))
    | draw ops =>
      simp only [ev] at h
      cases h1 : evDraw (evCall T (ev T n)) ops en st noLo [] [] with
      | none => rw [h1] at h; cases h
      | some M =>
        rw [h1] at h
        simp only at h
        injection h with h; subst h
        refine ⟨fun o ho => ?_, fun Q hQ => ?_⟩
        · simp only [List.mem_singleton] at ho; subst ho
          exact (evDraw_ok (N := N) (rd := rd) (mk := mk) (K := fun _ _ => True) hcl h1 hL (fun _ hq => by cases hq) (.refl _)).1
        · exact (evDraw_ok (K := fun en' st' => Q .normal en' mk st') hcl h1 hL (fun _ hq => by cases hq) (.refl _)).2 (hQ _ (List.mem_singleton.2 rfl))
    | rangeF f ps asg body A B =>
      simp only [ev] at h
      split at h
      · rename_i g k caps hf
        have hst : (ps.all fun p => decide (p < N)) = true → comp P N asg = A ∧ comp P N body = B ∧ ∀ p ∈ ps, p < N := fun c2 => ⟨hi.1, hi.2, fun p hp => by simpa using List.all_eq_true.1 c2 p hp⟩
        cases rd with
        | none =>
          simp only [Bool.true_and] at h
          split at h
          · rename_i hc
            simp only [Bool.and_eq_true] at hc
            obtain ⟨c2, c3⟩ := hc
            have kp : Kp P st (st ++ [.dfr] ++ [.loop N en ps asg body A B .ready none]) (min noLo noLo) := (Kp.push rfl noLo).trans (Kp.pushL (hst c2) noLo)
            have hii : (st ++ [AO.dfr] ++ [.loop N en ps asg body A B .ready none])[st.length + 1]? = some (.loop N en ps asg body A B .ready none) := by simp
            cases h1 : evCall T (ev T n) (.fn g k caps) [.yl (st.length + 1)] (st ++ [.dfr] ++ [.loop N en ps asg body A B .ready none]) with
            | none => rw [h1] at h; cases h
            | some M =>
              rw [h1] at h
              simp only at h
              obtain ⟨k1, k2⟩ := hcl _ _ _ _ h1 (kp.ok hL)
              obtain ⟨b1, b2⟩ := bindL_spec h
              refine ⟨fun o ho => ?_, fun Q hQ => ?_⟩
              · obtain ⟨r, hr, Mx, q1, q2⟩ := b2 o ho
                obtain ⟨w1, w2⟩ := (evRangeEnd_ok q1 (k1 r hr) hii).1 o q2
                rw [w2]
                have := kp.trans w1
                refine ⟨this.len, fun i hi hl => ?_, this.lp, this.ok⟩
                rw [w1.lo i hi (by simp; omega), List.append_assoc, List.getElem?_append_left hl]
              · simp only [wpC]
                refine range_rule hf (hT.body _ c3) (AFn.mono k2 fun x s ⟨r, hr, e1, e2⟩ => ?_)
                subst e1; subst e2
                obtain ⟨Mx, q1, q2⟩ := b1 r hr
                exact (evRangeEnd_ok q1 (k1 r hr) hii).2 Q (fun o ho => hQ o (q2 o ho))
          · cases h
        | some j =>
          simp only at h
          have c1 : ∃ N' en' ps' asg' body' A' B' ls pend, st[j]? = some (.loop N' en' ps' asg' body' A' B' ls pend) := by
            cases hj : st[j]? with
            | none => rw [hj] at h; simp at h
            | some ob =>
              rw [hj] at h
              cases ob with
              | loop => exact ⟨_, _, _, _, _, _, _, _, _, rfl⟩
              | _ => simp at h
          obtain ⟨N', en', ps', asg', body', A', B', ls, pend, hj⟩ := c1
          rw [hj] at h
          simp only [Bool.true_and] at h
          split at h
          · rename_i hc
            simp only [Bool.and_eq_true] at hc
            obtain ⟨c2, c3⟩ := hc
            have kp : Kp P st (st ++ [.loop N en ps asg body A B .ready none]) noLo := Kp.pushL (hst c2) noLo
            have hii : (st ++ [.loop N en ps asg body A B .ready none])[st.length]? = some (.loop N en ps asg body A B .ready none) := by simp
            cases h1 : evCall T (ev T n) (.fn g k caps) [.yl st.length] (st ++ [.loop N en ps asg body A B .ready none]) with
            | none => rw [h1] at h; cases h
            | some M =>
              rw [h1] at h
              simp only at h
              obtain ⟨k1, k2⟩ := hcl _ _ _ _ h1 (kp.ok hL)
              obtain ⟨b1, b2⟩ := bindL_spec h
              refine ⟨fun o ho => ?_, fun Q hQ => ?_⟩
              · obtain ⟨r, hr, Mx, q1, q2⟩ := b2 o ho
                obtain ⟨w1, w2⟩ := (evRangeEnd_ok q1 (k1 r hr) hii).1 o q2
                rw [w2]
                have := kp.trans w1
                refine ⟨this.len, fun i hi hl => ?_, this.lp, this.ok⟩
                rw [w1.lo i hi (by simp; omega), List.getElem?_append_left hl]
              · simp only [wpC]
                refine range_rule hf (hT.body _ c3) ⟨?_, AFn.mono k2 fun x s ⟨r, hr, e1, e2⟩ => ?_⟩
                · exact ⟨_, _, _, _, _, _, _, _, _, hj⟩
                · subst e1; subst e2
                  obtain ⟨Mx, q1, q2⟩ := b1 r hr
                  exact (evRangeEnd_ok q1 (k1 r hr) hii).2 Q (fun o ho => hQ o (q2 o ho))
          · cases h
      · cases h

/-- **A call, reckoned.** -/
theorem evCall_sound {T : Tab} (hT : TabOk P T) {n f : Nat} {args : List AV} {st : List AO} {L : List Res} (h : evCall T (ev T n) (.fn f 0 []) args st = some L) (hL : LOk P st) : ACall P f args st (fun x s => ∃ r ∈ L, x = r.1 ∧ s = r.2.1) := by
  have := (evCall_ok hT (ev_ok hT n).1 _ _ _ _ h hL).2
  simpa [AFn] using this

end
end Go.AW

/-
  AW, part 25: calls that name no object; what was reckoned once.
-/
namespace Go.AW
open Go Go.RowKit
set_option linter.unusedVariables false
set_option linter.unusedSimpArgs false

section
variable {P : Program}

/-- **Frame**: a call that was told from no objects on, of arguments that name none, leaves all objects alone. -/
theorem ACall.frame {f : Nat} {args : List AV} {x0 : AV} {st : List AO} (h : ACall P f args [] (fun x s => x = x0 ∧ s = [])) (ha : ∀ x ∈ args, x.ok 0 = true) : ACall P f args st (fun x s => x = x0 ∧ s = st) := by
  intro w ρ D vs hW hV
  have hno : ∀ i b, ¬ Owns ⟨w, [], D, []⟩ i b := fun i b ⟨o, v, h1, _⟩ => by simp at h1
  have hW0 : WR ⟨w, [], D, []⟩ := ⟨rfl, fun i o ho => by simp at ho, fun i b ho => (hno i b ho).elim, fun i j b ho => (hno i b ho).elim, fun i b off ho => (hno i b ho).elim, hW.cell⟩
  have hV0 : VRs ⟨w, [], D, []⟩ args vs := ⟨hV.1, fun i x v hx hv => VR.drop (c := ⟨w, ρ, D, st⟩) (c' := ⟨w, [], D, []⟩) (m := 0) (fun _ _ h => h) (fun _ _ _ => rfl) (fun i hi => by omega) (fun i _ _ _ hi => by omega) (Nat.zero_le _) (hV.2 i x v hx hv) (ha x (List.mem_of_getElem? hx))⟩
  have pm : ∀ e w', Post ⟨w, [], D, []⟩ (fun x s => x = x0 ∧ s = []) e w' → Post ⟨w, ρ, D, st⟩ (fun x s => x = x0 ∧ s = st) e w' := by
    rintro e w' ⟨v, x, st', ρ', D', rfl, h1, h2, h3, rfl, rfl⟩
    have hρ' : ρ' = [] := by have := h1.len; simpa using this
    subst hρ'
    obtain ⟨k1, k2⟩ := WR.data (c := ⟨w, ρ, D, st⟩) hW (w' := w') ⟨h3.os, h3.tape, h3.output, h3.size, fun k hk => h3.frame k hk (fun i hi => hno i k hi)⟩ D' h3.dmono (fun b off hd => by
      by_cases hb : b < w.heap.size
      · rcases h3.dnew b off hd hb with h | ⟨i, h⟩
        · exact .inl h
        · exact (hno i b h).elim
      · exact .inr ⟨by simp only; omega, h1.cell b off hd⟩)
    refine ⟨v, x, st, ρ, D', rfl, k1, ?_, k2, rfl, rfl⟩
    have hok := h2.ok
    exact VR.drop (c := ⟨w', [], D', []⟩) (c' := ⟨w', ρ, D', st⟩) (m := 0) (fun _ _ h => h) (fun _ _ _ => rfl) (fun i hi => by omega) (fun i _ _ _ hi => by omega) (Nat.zero_le _) h2 hok
  rcases h w [] D vs hW0 hV0 with ⟨h1, h2⟩ | ⟨v, w', h1, h2⟩
  · refine .inl ⟨h1, fun cs => ?_⟩
    obtain ⟨e, w', fr, hR, hs⟩ := h2 cs
    exact ⟨e, w', fr, pm _ _ hR, hs⟩
  · exact .inr ⟨v, w', h1, pm _ _ h2⟩

/-- Calls that were reckoned: function, arguments, value. -/
abbrev Memo := List (Nat × List AV × AV)
def memoF : Memo → Nat → List AV → List AO → Option (List Res)
  | [], _, _, _ => none
  | m :: M, f, xs, st => if m.1 == f && AV.beqL m.2.1 xs then some [(m.2.2, st, noLo)] else memoF M f xs st
def tabM (T : Tab) (M : Memo) : Tab := { T with orc := fun f xs st => match memoF M f xs st with
  | some L => some L
  | none => T.orc f xs st }

def MemoOk (P : Program) (M : Memo) : Prop := ∀ m ∈ M, (∀ x ∈ m.2.1, x.ok 0 = true) ∧ ACall P m.1 m.2.1 [] (fun x s => x = m.2.2 ∧ s = [])

theorem MemoOk.nil : MemoOk P [] := fun _ h => by cases h
theorem MemoOk.cons {m : Nat × List AV × AV} {M : Memo} (h : MemoOk P [m]) (k : MemoOk P M) : MemoOk P (m :: M) := fun x hx => by
  rcases List.mem_cons.1 hx with rfl | hx
  · exact h x (by simp)
  · exact k x hx
theorem MemoOk.app {M M' : Memo} (h : MemoOk P M) (k : MemoOk P M') : MemoOk P (M ++ M') := fun x hx => by
  rcases List.mem_append.1 hx with hx | hx
  · exact h x hx
  · exact k x hx

theorem memoF_ok : ∀ {M : Memo} {f : Nat} {xs : List AV} {st : List AO} {L : List Res}, MemoOk P M → memoF M f xs st = some L → (∀ r ∈ L, Kp P st r.2.1 r.2.2) ∧ ACall P f xs st (fun x s => ∃ r ∈ L, x = r.1 ∧ s = r.2.1)
  | [], f, xs, st, L, hM, h => by simp [memoF] at h
  | m :: M, f, xs, st, L, hM, h => by
    simp only [memoF] at h
    split at h
    · rename_i hc
      simp only [Bool.and_eq_true, beq_iff_eq] at hc
      injection h with h; subst h
      obtain ⟨h1, h2⟩ := hM m (by simp)
      have hx := AV.beqL_eq _ _ hc.2
      rw [← hx, ← hc.1]
      exact ⟨fun r hr => by simp at hr; subst hr; exact .refl _, (ACall.frame h2 h1).mono (fun x s ⟨e1, e2⟩ => ⟨_, List.mem_singleton.2 rfl, e1, e2⟩)⟩
    · exact memoF_ok (fun x hx => hM x (by simp [hx])) h

theorem TabOk.memo {T : Tab} {M : Memo} (hT : TabOk P T) (hM : MemoOk P M) : TabOk P (tabM T M) := by
  refine ⟨hT.fn, fun f xs st L h hL => ?_, hT.body⟩
  simp only [tabM] at h
  cases hm : memoF M f xs st with
  | none => rw [hm] at h; exact hT.orc f xs st L h hL
  | some L' =>
    rw [hm] at h
    injection h with h; subst h
    exact memoF_ok hM hm

/-- Reckoned: a call, from no objects on, of arguments that name none. -/
def checkM (T : Tab) (n : Nat) (m : Nat × List AV × AV) : Bool := m.2.1.all (AV.ok 0) && match evCall T (ev T n) (.fn m.1 0 []) m.2.1 [] with
  | some [(y, [], _)] => y.beq m.2.2
  | _ => false

theorem checkM_ok {T : Tab} (hT : TabOk P T) {n : Nat} {m : Nat × List AV × AV} (h : checkM T n m = true) : MemoOk P [m] := by
  intro x hx
  simp only [List.mem_singleton] at hx; subst hx
  simp only [checkM, Bool.and_eq_true] at h
  refine ⟨fun y hy => List.all_eq_true.1 h.1 y hy, ?_⟩
  replace h := h.2
  split at h
  · rename_i y lo he
    refine (evCall_sound hT he (fun i _ _ _ _ _ _ _ _ _ hi => by simp at hi)).mono (fun z s ⟨r, hr, e1, e2⟩ => ?_)
    simp only [List.mem_singleton] at hr; subst hr
    exact ⟨e1.trans (AV.beq_eq _ _ h), e2⟩
  · cases h

end
end Go.AW
