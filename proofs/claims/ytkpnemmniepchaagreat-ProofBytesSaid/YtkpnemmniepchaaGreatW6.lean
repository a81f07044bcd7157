/-
  Compiled code, functions, range over functions.
-/
import Derived.Test.YtkpnemmniepchaaGreatW5
import Derived.RangeFuncLeaves
import Derived.RangeFuncIn
/-
  AW, part 16: code as it is read; loops; functions.
-/
namespace Go.AW
open Go Go.RowKit
set_option linter.unusedVariables false
set_option linter.unusedSimpArgs false

/-- How code is read. -/
def comp (P : Program) (N : Nat) : Code → AC
  | .skip => .skip
  | .ret => .ret
  | .exit id => .exit id
  | .seq a b => .seq (comp P N a) (comp P N b)
  | .cond x a b => .cond x (comp P N a) (comp P N b)
  | .block id b => .block id (comp P N b)
  | .loop b => .loop (comp P N b)
  | .region id ops false => match compL P N ops ops.toList with
    | some l => .reg l
    | none => .raw (.region id ops false)
  | .region id ops true => if P.follows .mixedOrders then match drawL P N ops with
    | some l => .draw l
    | none => .raw (.region id ops true) else .raw (.region id ops true)
  | .rangeFunc f ps asg body => .rangeF f ps.toList asg body (comp P N asg) (comp P N body)
  | c => .raw c

section
variable (P : Program) (N : Nat) (rd : Option Nat)

def opsC (mk : List Nat) : List AI → Env → List AO → (Env → List AO → Prop) → Prop
  | [], en, st, K => K en st
  | i :: rest, en, st, K => match i.g with
    | none => opC P N rd mk i.op (preO i.op en st).1 (preO i.op en st).2 (fun x st' => opsC mk rest (putE en i.dst x) st' K)
    | some (t, w) => match en.get t with
      | .sc (.bool b) => if b = w then opC P N rd mk i.op (preO i.op en st).1 (preO i.op en st).2 (fun x st' => opsC mk rest (putE en i.dst x) st' K) else opsC mk rest (putE en i.dst (.tup [])) st K
      | .tup [] => opsC mk rest (putE en i.dst (.tup [])) st K
      | _ => False

/-- The loop whose round is read as b. -/
def LoopW (b : AC) (en : Env) (mk : List Nat) (st : List AO) (Q : AQ) : Prop := ∀ c, comp P N c = b → AW P N rd (.loop c) en mk st Q

/-- The range over a function. -/
def RangeW (f : Operand) (ps : List Nat) (asg body : Code) (en : Env) (mk : List Nat) (st : List AO) (Q : AQ) : Prop := AW P N rd (.rangeFunc f ps.toArray asg body) en mk st Q

/-- What code, as it is read, comes to. -/
def wpC : AC → Env → List Nat → List AO → AQ → Prop
  | .skip, en, mk, st, Q => Q .normal en mk st
  | .ret, en, mk, st, Q => Q .ret en mk st
  | .exit id, en, mk, st, Q => Q (.exit id) en mk st
  | .seq a b, en, mk, st, Q => wpC a en mk st (thenQ (fun en mk st => wpC b en mk st Q) Q)
  | .cond x a b, en, mk, st, Q => match opA en x with
    | .sc (.bool v) => (v = true → wpC a en mk st Q) ∧ (v = false → wpC b en mk st Q)
    | _ => False
  | .block id b, en, mk, st, Q => wpC b en mk st (blockQ id Q)
  | .loop b, en, mk, st, Q => LoopW P N rd b en mk st Q
  | .reg ops, en, mk, st, Q => opsC P N rd mk ops en st (fun en' st' => Q .normal en' mk st')
  | .draw ops, en, mk, st, Q => drawC P N rd mk ops en st [] [] (fun en' st' => Q .normal en' mk st')
  | .rangeF f ps asg body _ _, en, mk, st, Q => RangeW P N rd f ps asg body en mk st Q
  | .raw c, en, mk, st, Q => AW P N rd c en mk st Q
end

section
variable {P : Program} {N : Nat} {rd : Option Nat} {o : Oper} {en : Env} {mk : List Nat} {st : List AO} {K : AV → List AO → Prop} {c : Cx} {a : Act}

theorem opsC_ok {ops : Array Oper} : ∀ {l : List Oper} {il : List AI} {en : Env} {st : List AO} {K : Env → List AO → Prop}, compL P N ops l = some il → opsC P N rd mk il en st K → opsW P N rd ops mk l en st K
  | [], il, en, st, K, hc, h => by simp [compL] at hc; subst hc; exact h
  | o :: l, il, en, st, K, hc, h => by
    simp only [compL] at hc
    split at hc
    · rename_i i il' hi hl
      injection hc with hc; subst hc
      unfold compI at hi
      split at hi
      · rename_i hdst
        refine ⟨dstOk_lt hdst, ?_⟩
        simp only [opsC] at h
        split at hi
        · rename_i hg
          injection hi with hi; subst hi
          have hga : guardA ops en o = some true := by simp [guardA, hg]
          rw [hga]
          exact opC_mono h (fun x st' hk => opsC_ok hl hk)
        · rename_i j w hg
          split at hi
          · rename_i t ht
            injection hi with hi; subst hi
            simp only at h
            split at h
            · rename_i b hb
              split at h
              · rename_i hbw
                have hga : guardA ops en o = some true := by simp [guardA, hg, ht, hb, hbw]
                rw [hga]
                exact opC_mono h (fun x st' hk => opsC_ok hl hk)
              · rename_i hbw
                have hga : guardA ops en o = some false := by simp [guardA, hg, ht, hb]; cases b <;> cases w <;> simp_all
                rw [hga]
                exact opsC_ok hl h
            · rename_i hb
              have hga : guardA ops en o = some false := by simp [guardA, hg, ht, hb]
              rw [hga]
              exact opsC_ok hl h
            · exact h.elim
          · cases hi
      · cases hi
    · cases hc


theorem wpC_ok : ∀ {ac : AC} {c : Code} {en : Env} {st : List AO} {mk : List Nat} {Q : AQ}, comp P N c = ac → wpC P N rd ac en mk st Q → AW P N rd c en mk st Q := by
  intro ac c
  induction c generalizing ac with
  | skip => intro en st mk Q hc h; simp only [comp] at hc; subst hc; exact aw_skip h
  | ret => intro en st mk Q hc h; simp only [comp] at hc; subst hc; exact aw_ret h
  | exit id => intro en st mk Q hc h; simp only [comp] at hc; subst hc; exact aw_exit h
  | seq x y ihx ihy =>
    intro en st mk Q hc h
    simp only [comp] at hc; subst hc
    exact aw_seq ((ihx rfl h).mono (fun x en mk st hq => by
      cases x with
      | normal => exact ihy rfl hq
      | exit id => exact hq
      | ret => exact hq))
  | cond x p q ihp ihq =>
    intro en st mk Q hc h
    simp only [comp] at hc; subst hc
    simp only [wpC] at h
    split at h
    · rename_i b hb
      refine aw_cond hb ?_
      cases b with
      | true => exact ihp rfl (h.1 rfl)
      | false => exact ihq rfl (h.2 rfl)
    · exact h.elim
  | block id b ih => intro en st mk Q hc h; simp only [comp] at hc; subst hc; exact aw_block (ih rfl h)
  | loop b ih => intro en st mk Q hc h; simp only [comp] at hc; subst hc; exact h b rfl
  | region id ops draw =>
    intro en st mk Q hc h
    cases draw with
    | true =>
      simp only [comp] at hc
      split at hc
      · rename_i hm
        split at hc
        · rename_i l hl
          subst hc
          obtain ⟨B, hB⟩ := drawL_ok hl
          exact aw_draw hm hB h
        · subst hc; exact h
      · subst hc; exact h
    | false =>
      simp only [comp] at hc
      split at hc
      · rename_i l hl; subst hc; exact aw_region (opsC_ok hl h)
      · subst hc; exact h
  | rangeFunc f ps asg b _ _ => intro en st mk Q hc h; simp only [comp] at hc; subst hc; simpa [wpC, RangeW] using h
  | scope b _ => intro en st mk Q hc h; simp only [comp] at hc; subst hc; exact h
  | label l => intro en st mk Q hc h; simp only [comp] at hc; subst hc; exact h
  | goto l => intro en st mk Q hc h; simp only [comp] at hc; subst hc; exact h
  | refuse w => intro en st mk Q hc h; simp only [comp] at hc; subst hc; exact h

/-- A smaller environment, as a list. -/
def SubE : Env → Env → Prop
  | [], _ => True
  | (k, v) :: r, en => v = en.get k ∧ SubE r en
theorem SubE.sub : ∀ {E en : Env}, SubE E en → E.sub en
  | [], _, _ => fun i => .inl rfl
  | (k, v) :: r, en, h => fun i => by
    simp only [Env.get]
    by_cases hi : i = k
    · rw [if_pos hi]; subst hi; exact .inr h.1
    · rw [if_neg hi]; exact h.2.sub i

/-- What the next round of a loop, entered with st0, begins with: objects that the round laid are dropped. -/
def Next (st0 : List AO) (mk : List Nat) (E : Env) (T : List AO) (en : Env) (st : List AO) : Prop :=
  SubE E en ∧ okE T.length E = true ∧ T = st.take T.length ∧ st0.length ≤ T.length ∧ (∀ (i : Nat) o, i < T.length → st[i]? = some o → st0[i]? = some o ∨ o.ok T.length) ∧ ∀ i ∈ mk, i < T.length

open Classical in
/-- The least number of which something holds (0: there is none). -/
noncomputable def least (p : Nat → Prop) : Nat := if h : ∃ m, p m ∧ ∀ k, k < m → ¬ p k then Classical.choose h else 0
theorem least_ex {p : Nat → Prop} (h : ∃ m, p m) : ∃ m, p m ∧ ∀ k, k < m → ¬ p k := by
  obtain ⟨m, hm⟩ := h
  induction m using Nat.strongRecOn with
  | _ m ih =>
    by_cases hk : ∃ k, k < m ∧ p k
    · obtain ⟨k, h1, h2⟩ := hk; exact ih k h1 h2
    · exact ⟨m, hm, fun k hlt hp => hk ⟨k, hlt, hp⟩⟩
theorem least_spec {p : Nat → Prop} (h : ∃ m, p m) : p (least p) ∧ ∀ k, k < least p → ¬ p k := by
  unfold least
  rw [dif_pos (least_ex h)]
  exact Classical.choose_spec (least_ex h)
theorem least_le {p : Nat → Prop} {m : Nat} (h : p m) : least p ≤ m := by
  by_cases hl : least p ≤ m
  · exact hl
  · exact absurd h ((least_spec ⟨m, h⟩).2 m (by omega))

/-- A loop. -/
theorem loopW {α : Type} (S : α → Env × List AO) (μ : α → Nat) {b : AC} {Q : AQ} (a0 : α) (h0 : SubE (S a0).1 en) (hst : (S a0).2 = st)
    (body : ∀ a, wpC P N rd b (S a).1 mk (S a).2 (fun x en' mk' st' => match x with
      | .normal => mk' = mk ∧ ∃ a', μ a' < μ a ∧ Next st mk (S a').1 (S a').2 en' st'
      | x => Q x en' mk' st')) : LoopW P N rd b en mk st Q := by
  intro c hc F n a w ρ D hF hW hE hM
  let I : Act → World → α → Prop := fun a' w' k => ∃ ρ' D', WR ⟨w', ρ', D', (S k).2⟩ ∧ ER ⟨w', ρ', D', (S k).2⟩ (S k).1 N a'.tmps ∧ MR ρ' mk a'.defers ∧ Ext ⟨w, ρ, D, st⟩ ⟨w', ρ', D', (S k).2⟩ ∧ st.length ≤ (S k).2.length
  refine wpIn_loop (fun a' w' => ∃ k, I a' w' k) (fun a' w' => least fun m => ∃ k, μ k = m ∧ I a' w' k) ?_ ?_
  · refine ⟨a0, ρ, D, by rw [hst]; exact hW, ⟨hE.1, fun i => ?_⟩, hM, by rw [hst]; exact .refl _, by rw [hst]; exact Nat.le_refl _⟩
    rw [hst]
    rcases h0.sub i with h | h
    · exact .inl h
    · rw [h]; exact hE.2 i
  · rintro a' w' ⟨k0, hk0⟩
    obtain ⟨⟨k, hk, ρ', D', h1, h2, h3, h4, h5⟩, hmin⟩ := least_spec (p := fun m => ∃ k, μ k = m ∧ I a' w' k) ⟨μ k0, k0, rfl, hk0⟩
    have hw := wpC_ok hc (body k) F n a' w' ρ' D' (FR.ext h4 hF) h1 h2 h3
    refine wpIn_mono hw ?_
    rintro e a'' w'' ⟨x, en', mk', st', ρ'', D'', rfl, q1, q2, q3, q4, q5⟩
    cases x with
    | normal =>
      obtain ⟨rfl, k', hlt, g1, g2, g3, g4, g5, g6⟩ := q5
      have hx : Ext ⟨w, ρ, D, st⟩ ⟨w'', ρ'', D'', st'⟩ := h4.trans q4
      have hTl : (S k').2.length ≤ st'.length := by rw [g3, List.length_take]; exact Nat.min_le_right _ _
      obtain ⟨c1, c2⟩ := WR.cut (c0 := ⟨w, ρ, D, st⟩) (c := ⟨w'', ρ'', D'', st'⟩) hW q1 hx (m := (S k').2.length) g4 hTl g5
      have hcut : Cx.cut ⟨w'', ρ'', D'', st'⟩ (S k').2.length = ⟨w'', ρ''.take (S k').2.length, Frozen ⟨w'', ρ'', D'', st'⟩ (S k').2.length, (S k').2⟩ := by
        simp only [Cx.cut]; congr 1; exact g3.symm
      rw [hcut] at c1 c2
      have hρl : ρ''.length = st'.length := q1.len
      have hI : I a'' w'' k' := by
        refine ⟨_, _, c1, ⟨q2.1, fun i => ?_⟩, ⟨q3.1, fun j i d hj hd => ?_⟩, c2, g4⟩
        · have := q2.2 i
          rcases g1.sub i with h | h
          · exact .inl h
          · rw [h]
            refine this.imp id (fun ⟨l1, l2⟩ => ⟨l1, ?_⟩)
            have hok := okE_get g2 i
            rw [h] at hok
            refine VR.drop (c := ⟨w'', ρ'', D'', st'⟩) (c' := ⟨w'', ρ''.take (S k').2.length, Frozen ⟨w'', ρ'', D'', st'⟩ (S k').2.length, (S k').2⟩) (m := (S k').2.length) (fun b off hd => Or.inl hd) (fun _ _ _ => rfl) (fun i hi => by simp [List.getElem?_take, hi]) (fun i e sz xs hi he => ?_) (by simp [hρl]; omega) l2 hok
            simp only at he ⊢
            rw [g3, List.getElem?_take, if_pos hi] at he
            exact he
        · obtain ⟨b, hb, hd'⟩ := q3.2 j i d hj hd
          refine ⟨b, ?_, hd'⟩
          have := g6 i (List.mem_of_getElem? hj)
          simp [List.getElem?_take, this, hb]
      refine ⟨⟨k', hI⟩, ?_⟩
      have hle := least_le (p := fun m => ∃ k, μ k = m ∧ I a'' w'' k) ⟨k', rfl, hI⟩
      rw [← hk]
      exact Nat.lt_of_le_of_lt hle hlt
    | exit id => exact ⟨.exit id, en', mk', st', ρ'', D'', rfl, q1, q2, q3, h4.trans q4, q5⟩
    | ret => exact ⟨.ret, en', mk', st', ρ'', D'', rfl, q1, q2, q3, h4.trans q4, q5⟩

end
end Go.AW

/-
  AW, part 17: functions.
-/
namespace Go.AW
open Go Go.RowKit
set_option linter.unusedVariables false
set_option linter.unusedSimpArgs false

inductive RV where
  | tmp (t : Nat)
  | cell (t : Nat) (agg : Bool) (n : Nat)
  deriving Inhabited

def compR (P : Program) : List ResultVar → Option (List RV)
  | [] => some []
  | .tmp t :: r => (compR P r).map (.tmp t :: ·)
  | .cell t ty :: r => match P.underlying ty, P.info? ty, compR P r with
    | some d, some i, some l => some (.cell t (tyAgg d) i.size :: l)
    | _, _, _ => none

def resOne (en : Env) (st : List AO) : RV → Option AV
  | .tmp t => some (en.get t)
  | .cell t agg n => loadA st agg n (en.get t)
def resL (en : Env) (st : List AO) : List RV → Option (List AV)
  | [] => some []
  | r :: rs => match resOne en st r, resL en st rs with
    | some x, some xs => some (x :: xs)
    | _, _ => none
def resW (rs : List RV) (en : Env) (st : List AO) : Option AV := match resL en st rs with
  | some [x] => some x
  | some xs => some (.tup xs)
  | none => none

section
variable {P : Program} {N : Nat} {rd : Option Nat} {en : Env} {mk : List Nat} {st : List AO} {c : Cx} {a : Act}

theorem run_asAddr {ad : Addr} {w : World} : (asAddr (.pointer (some ad))).run P w = .ok ad w := rfl

theorem resL_ok (hW : WR c) (hE : ER c en N a.tmps) {f : ResultVar → Sem Value} (hf1 : ∀ t, f (.tmp t) = pure (a.tmps.getD t undef)) (hf2 : ∀ q t, f (.cell q t) = (do loadVar t (← asAddr (a.tmps.getD q undef)))) :
    ∀ {rs : List ResultVar} {rv : List RV} {xs : List AV}, compR P rs = some rv → resL en c.st rv = some xs →
    ∃ vs : List Value, (rs.mapM f).run P c.w = .ok vs c.w ∧ vs.length = xs.length ∧ ∀ (i : Nat) x v, xs[i]? = some x → vs[i]? = some v → VR c x v
  | [], rv, xs, hc, h => by
    simp [compR] at hc; subst hc
    simp [resL] at h; subst h
    exact ⟨[], rfl, rfl, by simp⟩
  | .tmp t :: rs, rv, xs, hc, h => by
    simp only [compR, Option.map_eq_some_iff] at hc
    obtain ⟨rv', h1, rfl⟩ := hc
    simp only [resL, resOne] at h
    split at h
    · rename_i x xs' h2 h3
      injection h with h; subst h
      injection h2 with h2; subst h2
      obtain ⟨vs, k1, k2, k3⟩ := resL_ok hW hE hf1 hf2 h1 h3
      refine ⟨a.tmps.getD t undef :: vs, ?_, by simp [k2], fun i x v hx hv => ?_⟩
      · rw [List.mapM_cons, hf1]; simp only [Sem.run_bind, Sem.run_pure, Result.andThen_ok, k1]
      · cases i with
        | zero => simp at hx hv; subst hx; subst hv; have := hE.opA (a := a) (.tmp t); simpa [opA, Act.eval] using this
        | succ i => simp at hx hv; exact k3 i x v hx hv
    · cases h
  | .cell q t :: rs, rv, xs, hc, h => by
    simp only [compR] at hc
    split at hc
    · rename_i d i l hd hi h1
      injection hc with hc; subst hc
      simp only [resL, resOne] at h
      split at h
      · rename_i x xs' h2 h3
        injection h with h; subst h
        obtain ⟨vs, k1, k2, k3⟩ := resL_ok hW hE hf1 hf2 h1 h3
        obtain ⟨ad, hv, l1, l2⟩ := load_ok (P := P) hW (hE.opA (a := a) (.tmp q)) h2
        have hv' : a.tmps.getD q undef = .pointer (some ad) := hv
        obtain ⟨u, hu, hx⟩ : ∃ u, (loadVar t ad).run P c.w = .ok u c.w ∧ VR c x u := by
          simp only [loadVar, Sem.run_bind, run_agg hd, Result.andThen_ok]
          cases hd' : tyAgg d with
          | true =>
            obtain ⟨arr, m1, m2⟩ := l1 hd'
            exact ⟨.agg arr, by simp [Sem.run_bind, run_size hi, m1], m2⟩
          | false =>
            obtain ⟨u, m1, m2⟩ := l2 hd'
            exact ⟨u, by simp [m1], m2⟩
        refine ⟨u :: vs, ?_, by simp [k2], fun i x v hx' hv => ?_⟩
        · rw [List.mapM_cons, hf2, hv']; simp only [Sem.run_bind, run_asAddr, Sem.run_pure, Result.andThen_ok, k1, hu]
        · cases i with
          | zero => simp at hx' hv; subst hx'; subst hv; exact hx
          | succ i => simp at hx' hv; exact k3 i _ v hx' hv
      · cases h
    · cases hc

theorem resW_ok (hW : WR c) (hE : ER c en N a.tmps) {fn : Func} {rv : List RV} {x : AV} (hc : compR P fn.results.toList = some rv) (h : resW rv en c.st = some x) :
    ∃ v, (results fn a.tmps).run P c.w = .ok v c.w ∧ VR c x v := by
  unfold resW at h
  have key : ∀ xs, resL en c.st rv = some xs → ∃ vs : List Value, (results fn a.tmps).run P c.w = .ok (if h : vs.toArray.size = 1 then vs.toArray[0] else .tuple vs.toArray) c.w ∧ vs.length = xs.length ∧ ∀ (i : Nat) x v, xs[i]? = some x → vs[i]? = some v → VR c x v := by
    intro xs hx
    obtain ⟨vs, k1, k2, k3⟩ := resL_ok (f := fun
      | .tmp t => pure (a.tmps.getD t undef)
      | .cell q t => do loadVar t (← asAddr (a.tmps.getD q undef))) hW hE (fun _ => rfl) (fun _ _ => rfl) hc hx
    refine ⟨vs, ?_, k2, k3⟩
    unfold results
    rw [Sem.run_bind, Array.mapM_eq_mapM_toList, Sem.run_map]
    refine (congrArg (fun r => (Result.andThen (Result.andThen r _) _)) k1).trans ?_
    rfl
  split at h
  · rename_i y hy
    injection h with h; subst h
    obtain ⟨vs, k1, k2, k3⟩ := key _ hy
    match vs, k2 with
    | [v], _ => exact ⟨v, by rw [k1]; rfl, k3 0 _ v rfl rfl⟩
  · rename_i ys hne hy
    injection h with h; subst h
    obtain ⟨vs, k1, k2, k3⟩ := key _ hy
    refine ⟨.tuple vs.toArray, ?_, .tup (by simp [k2]) (fun i x v hx hv => k3 i x v hx (by simpa using hv))⟩
    rw [k1, dif_neg]
    intro h1
    have : ys.length = 1 := by rw [← k2]; simpa using h1
    obtain ⟨y, rfl⟩ := List.length_eq_one_iff.1 this
    exact hne y rfl
  · cases h

/-- The environment in which a function begins. -/
def argE : Nat → List AV → Env
  | _, [] => []
  | k, x :: r => (k, x) :: argE (k + 1) r

theorem argE_get : ∀ {xs : List AV} {k i : Nat}, (argE k xs).get i = if k ≤ i then (xs[i - k]?).getD .any else .any
  | [], k, i => by simp [argE, Env.get]
  | x :: xs, k, i => by
    simp only [argE, Env.get]
    by_cases h : i = k
    · subst h; simp
    · rw [if_neg h, argE_get]
      by_cases h1 : k ≤ i
      · rw [if_pos (by omega), if_pos h1]
        obtain ⟨j, rfl⟩ : ∃ j, i = k + 1 + j := ⟨i - (k + 1), by omega⟩
        rw [show k + 1 + j - (k + 1) = j by omega, show k + 1 + j - k = j + 1 by omega]
        simp
      · rw [if_neg (by omega), if_neg h1]

def AV.nrmT : AV → AV
  | .tup cs => .tup (cs.map AV.nrm)
  | x => x.nrm

theorem VR.nrmT {x : AV} {v : Value} (h : VR c x v) : VR c x.nrmT v := by
  cases hx : x with
  | tup cs =>
    subst hx
    simp only [AV.nrmT]
    cases h with
    | tup hl hh =>
      refine .tup (by simpa using hl) (fun i x v hx hv => ?_)
      simp only [List.getElem?_map] at hx
      cases hc : cs[i]? with
      | none => rw [hc] at hx; cases hx
      | some y => rw [hc] at hx; injection hx with hx; subst hx; exact (hh i y v hc hv).nrm
  | _ => subst hx; simp only [AV.nrmT]; exact h.nrm

/-- What is told of a result, with the objects that stay. -/
def Fin (st : List AO) (R : AV → List AO → Prop) (x : AV) (st' : List AO) : Prop :=
  ∃ m, st.length ≤ m ∧ m ≤ st'.length ∧ (m = st'.length ∨ ∀ (i : Nat) o, i < m → st'[i]? = some o → st[i]? = some o ∨ o.ok m) ∧ (R (x.frz st' m) (st'.take m) ∨ R (x.frz st' m).nrmT (st'.take m))

/-- The marks' blocks are shut, one behind the other. -/
def marksOk : List Nat → List AO → Option (List AO)
  | [], st => some st
  | i :: r, st => match st[i]? with
    | some .dfr => marksOk r (st.set i .dead)
    | _ => none

/-- How a body ends. -/
def FinQ (rv : List RV) (st : List AO) (R : AV → List AO → Prop) : AQ := fun x en mk st' => match x with
  | .exit _ => False
  | _ => match marksOk mk st' with
    | none => False
    | some st'' => match resW rv en st'' with
      | some v => Fin st R v st''
      | none => False

theorem Fin.post {c0 c : Cx} {R : AV → List AO → Prop} {x : AV} {v : Value} (h0 : WR c0) (hW : WR c) (hx : Ext c0 c) (hv : VR c x v) (h : Fin c0.st R x c.st) : Post c0 R (.returned v) c.w := by
  obtain ⟨m, h1, h2, h3, h4⟩ := h
  have h3' : ∀ (i : Nat) o, i < m → c.st[i]? = some o → c0.st[i]? = some o ∨ o.ok m := by
    rcases h3 with h3 | h3
    · subst h3
      intro i o _ ho
      have := (hW.obj i o ho).ok
      rw [hW.len] at this
      exact .inr this
    · exact h3
  obtain ⟨k1, k2⟩ := WR.cut h0 hW hx h1 h2 h3'
  rcases h4 with h4 | h4
  · exact ⟨v, _, _, _, _, rfl, k1, hv.frz hW h2, k2, h4⟩
  · exact ⟨v, _, _, _, _, rfl, k1, (hv.frz hW h2).nrmT, k2, h4⟩

theorem run_callFunc {f : Nat} {fn : Func} {vs : Array Value} {w : World} (hf : P.funcs[f]? = some fn) (hb : fn.body.isSome = true) (hn : (fn.name == "runtime.NumGoroutine") = false) :
    (callFunc f vs).run P w = .ok (.enter f vs) w := by
  have hb' : fn.body.isNone = false := by cases h : fn.body <;> simp_all
  unfold callFunc
  simp only [Sem.run_bind, run_program, Result.andThen_ok, hf, hn, hb', Bool.false_eq_true, if_false, Sem.run_pure]

/-- **A function**, from its body. -/
theorem acall_of {f : Nat} {fn : Func} {cd : Code} {ac : AC} {rv : List RV} {args : List AV} {R : AV → List AO → Prop} (hf : P.funcs[f]? = some fn) (hb : fn.body = some cd) (hn : (fn.name == "runtime.NumGoroutine") = false)
    (hN : fn.ntmps = N) (hl : args.length ≤ N) (hc : comp P N cd = ac) (hr : compR P fn.results.toList = some rv) (h : wpC P N none ac (argE 0 args) [] st (FinQ rv st R)) : ACall P f args st R := by
  intro w ρ D vs hW hV
  refine .inl ⟨run_callFunc hf (by rw [hb]; rfl) hn, ?_⟩
  rw [← callsIn_wide (n := 0)]
  refine callsIn_of_wp_marks hf hb trivial ?_ rfl
  have hsz : vs.size ≤ N := by rw [← hV.1]; exact hl
  have hE : ER ⟨w, ρ, D, st⟩ (argE 0 args) N (vs ++ Array.replicate (fn.ntmps - vs.size) undef) := by
    refine ⟨by simp [hN]; omega, fun i => ?_⟩
    rw [argE_get]
    simp only [Nat.zero_le, if_true, Nat.sub_zero]
    cases hx : args[i]? with
    | none => exact .inl rfl
    | some x =>
      have hi : i < vs.size := by rw [← hV.1]; exact (List.getElem?_eq_some_iff.1 hx).1
      refine .inr ⟨by omega, ?_⟩
      simp only [Option.getD_some]
      have hg : (vs ++ Array.replicate (fn.ntmps - vs.size) undef).getD i undef = vs[i] := by
        rw [Array.getD_eq_getD_getElem?, Array.getElem?_append_left hi, Array.getElem?_eq_getElem hi]; rfl
      rw [hg]
      exact hV.2 i x _ hx (Array.getElem?_eq_getElem hi)
  refine wpIn_mono (wpC_ok hc h Fence.wide 0 _ w ρ D (.inl ⟨rfl, rfl⟩) hW hE ⟨rfl, fun j i d hj => by simp at hj⟩) ?_
  have leave : ∀ (mk : List Nat) (ds : List Deferred) (tmps : Array Value) (en' : Env) (w' : World) (ρ' : List Value) (D' : Nat → Nat → Prop) (st' : List AO), WR ⟨w', ρ', D', st'⟩ → ER ⟨w', ρ', D', st'⟩ en' N tmps → MR ρ' mk ds → Ext ⟨w, ρ, D, st⟩ ⟨w', ρ', D', st'⟩ →
      (match marksOk mk st' with
        | none => False
        | some st'' => match resW rv en' st'' with
          | some v => Fin st R v st''
          | none => False) → LeavesInM Fence.wide 0 P fn tmps (Post ⟨w, ρ, D, st⟩ R) ds .returning w' := by
    intro mk
    induction mk with
    | nil =>
      intro ds tmps en' w' ρ' D' st' h1 h2 h3 h4 h5
      have hds : ds = [] := List.eq_nil_of_length_eq_zero (by simpa using h3.1)
      subst hds
      simp only [marksOk] at h5
      split at h5
      · rename_i v hv
        obtain ⟨u, k1, k2⟩ := resW_ok (a := { tmps := tmps, defers := [] }) (c := ⟨w', ρ', D', st'⟩) h1 h2 hr hv
        exact ⟨u, k1, Fin.post (c0 := ⟨w, ρ, D, st⟩) hW h1 h4 k2 h5⟩
      · exact h5.elim
    | cons i mk ih =>
      intro ds tmps en' w' ρ' D' st' h1 h2 h3 h4 h5
      cases ds with
      | nil => have := h3.1; simp at this
      | cons d ds =>
        simp only [marksOk] at h5
        split at h5
        · exact h5.elim
        · rename_i st'' hm
          split at hm
          case h_2 => cases hm
          rename_i hdf
          obtain ⟨b, hb', rfl⟩ := h3.2 0 i d rfl rfl
          obtain ⟨b1, q1, q2⟩ := h1.obj i _ hdf
          simp only at q1
          rw [hb'] at q1
          injection q1 with q1; injection q1 with q1; injection q1 with q1; subst q1
          have hown : Owns ⟨w', ρ', D', st'⟩ i b := ⟨_, _, hdf, rfl, hb', rfl, fun _ _ _ h => by cases h⟩
          have hset := set_self hb'
          have hU := WR.upd (c := ⟨w', ρ', D', st'⟩) h1 (w' := w'.putObj b (.deferred none)) (h := dfrH b) (o := .dead) hdf hb' ⟨rfl, rfl, rfl⟩ (by simp)
            (fun k hk hnk => World.putObj_heap_other (r := b) (fun e : k = b => hnk (by rw [e]; exact hown))) (.inl rfl) (fun _ _ _ h => by cases h) (fun b' hb _ _ => .inl (by simp [hblk, dfrH] at hb; exact hb ▸ hown))
            (fun c' e1 e2 e3 e4 hx => trivial)
          simp only at hU
          rw [hset] at hU
          refine ⟨by simp, .inl ⟨b, _, rfl, run_takeDeferred q2, ?_⟩⟩
          refine ih ds tmps en' _ ρ' D' (st'.set i .dead) hU.1 (h2.ext hU.2) ⟨by have := h3.1; simpa using this, fun j k d hj hd => h3.2 (j + 1) k d (by simpa using hj) (by simpa using hd)⟩ (h4.trans hU.2) ?_
          rw [hm]; exact h5
  rintro e a' w' ⟨x, en', mk', st', ρ', D', rfl, h1, h2, h3, h4, h5⟩
  cases x with
  | normal => exact leave mk' a'.defers a'.tmps en' w' ρ' D' st' h1 h2 h3 h4 h5
  | ret => exact leave mk' a'.defers a'.tmps en' w' ρ' D' st' h1 h2 h3 h4 h5
  | exit id => exact h5.elim

end
end Go.AW

/-
  AW, part 18: ranges over functions, and their rounds.
-/
namespace Go.AW
open Go Go.RowKit
set_option linter.unusedVariables false
set_option linter.unusedSimpArgs false

section
variable {P : Program} {N : Nat} {rd : Option Nat} {en : Env} {mk : List Nat} {st : List AO} {c : Cx} {a : Act}

/-- What a way out of a round leaves to be done. -/
def AX.pend : AX → Option Code
  | .normal => none
  | .ret => some .ret
  | .exit id => some (.exit id)

/-- A yield's arguments, in the parameters. -/
def putPs : List (Nat × AV) → Env → Env
  | [], en => en
  | (t, x) :: r, en => putPs r ((t, x) :: en)

theorem putPs_ok {c : Cx} : ∀ {ps : List Nat} {args : List AV} {vs : List Value} {en : Env} {tmps : Array Value}, ER c en N tmps → (∀ p ∈ ps, p < N) → ps.length = args.length → args.length = vs.length → (∀ (i : Nat) x v, args[i]? = some x → vs[i]? = some v → VR c x v) →
    ER c (putPs (ps.zip args) en) N ((ps.zip vs).foldl (fun tmps (t, a) => tmps.setIfInBounds t a) tmps)
  | [], [], [], en, tmps, h, _, _, _, _ => h
  | p :: ps, x :: args, v :: vs, en, tmps, h, hp, h1, h2, hv => by
    simp only [List.zip_cons_cons, putPs, List.foldl_cons]
    refine putPs_ok ?_ (fun q hq => hp q (by simp [hq])) (by simpa using h1) (by simpa using h2) (fun i y u hy hu => hv (i + 1) y u (by simpa using hy) (by simpa using hu))
    have := ER.put (a := { tmps := tmps, defers := [] }) h (hp p (by simp)) (hv 0 x v rfl rfl)
    simpa [Act.put] using this
  | [], _ :: _, _, _, _, _, _, h1, _, _ => by simp at h1
  | _ :: _, [], _, _, _, _, _, h1, _, _ => by simp at h1
  | [], [], _ :: _, _, _, _, _, _, h2, _ => by simp at h2
  | _ :: _, _ :: _, [], _, _, _, _, _, h2, _ => by simp at h2

/-- The loop's record turns. -/
theorem loop_turn (hW : WR c) {i b : Nat} {ps : List Nat} {asg body : Code} {A B : AC} {ls ls' : LoopState} {pend pend' : Option Code} {r : Loop} (hst : c.st[i]? = some (.loop N en ps asg body A B ls pend))
    (hρ : c.ρ[i]? = some (.func (.yield b) #[] #[])) (hb : c.w.heap[b]? = some (.loop r)) (h1 : r.params.toList = ps ∧ r.assign = asg ∧ r.body = body ∧ r.tmps.size = N ∧ ∀ t, en.get t = .any ∨ (t < N ∧ VR c (en.get t) (r.tmps.getD t undef))) :
    WR ⟨c.w.putObj b (.loop { r with state := ls', pending := pend' }), c.ρ, c.D, c.st.set i (.loop N en ps asg body A B ls' pend')⟩ ∧ Ext c ⟨c.w.putObj b (.loop { r with state := ls', pending := pend' }), c.ρ, c.D, c.st.set i (.loop N en ps asg body A B ls' pend')⟩ := by
  have hown : Owns c i b := ⟨_, _, hst, rfl, hρ, rfl, fun _ _ _ h => by cases h⟩
  have hset := set_self hρ
  have hU := WR.upd (c := c) hW (w' := c.w.putObj b (.loop { r with state := ls', pending := pend' })) (h := .func (.yield b) #[] #[]) (o := .loop N en ps asg body A B ls' pend') hst hρ ⟨rfl, rfl, rfl⟩ (by simp)
    (fun k hk hnk => World.putObj_heap_other (r := b) (fun e : k = b => hnk (by rw [e]; exact hown))) (.inl rfl) (fun _ _ _ h => by cases h) (fun b' hb _ _ => .inl (by simp [hblk] at hb; exact hb ▸ hown))
    (fun c' e1 e2 e3 e4 hx => ⟨b, { r with state := ls', pending := pend' }, by rw [e3, hset]; exact hρ, by rw [e1]; exact World.putObj_heap_same (hW.lt i b hown), rfl, rfl, h1.1, h1.2.1, h1.2.2.1, h1.2.2.2.1, fun t => (h1.2.2.2.2 t).imp (fun h => h) (fun ⟨q1, q2⟩ => ⟨q1, q2.mono hx⟩)⟩)
  rw [hset] at hU
  exact hU

/-- The record ends: nothing is told of it any more. -/
theorem loop_dead (hW : WR c) {i b : Nat} {ps : List Nat} {asg body : Code} {A B : AC} {ls : LoopState} {pend : Option Code} {r' : Loop} (hst : c.st[i]? = some (.loop N en ps asg body A B ls pend))
    (hρ : c.ρ[i]? = some (.func (.yield b) #[] #[])) :
    WR ⟨c.w.putObj b (.loop r'), c.ρ, c.D, c.st.set i .dead⟩ ∧ Ext c ⟨c.w.putObj b (.loop r'), c.ρ, c.D, c.st.set i .dead⟩ := by
  have hown : Owns c i b := ⟨_, _, hst, rfl, hρ, rfl, fun _ _ _ h => by cases h⟩
  have hset := set_self hρ
  have hU := WR.upd (c := c) hW (w' := c.w.putObj b (.loop r')) (h := .func (.yield b) #[] #[]) (o := .dead) hst hρ ⟨rfl, rfl, rfl⟩ (by simp)
    (fun k hk hnk => World.putObj_heap_other (r := b) (fun e : k = b => hnk (by rw [e]; exact hown))) (.inl rfl) (fun _ _ _ h => by cases h) (fun b' hb _ _ => .inl (by simp [hblk] at hb; exact hb ▸ hown))
    (fun c' e1 e2 e3 e4 hx => trivial)
  rw [hset] at hU
  exact hU

/-- A round, as it is read. -/
def RoundQ (i : Nat) (N : Nat) (en : Env) (ps : List Nat) (asg body : Code) (A B : AC) (st : List AO) (R : AV → List AO → Prop) : AQ := fun x en2 mk2 st2 =>
  mk2 = [] ∧ st2[i]? = some (.loop N en ps asg body A B .busy none) ∧ Fin st R (.sc (.bool x.pend.isNone)) (st2.set i (.loop N en ps asg body A B (if x.pend.isNone then .ready else .done) x.pend))

theorem ayield_of {i : Nat} {ps : List Nat} {asg body : Code} {A B : AC} {args : List AV} {R : AV → List AO → Prop} (hst : st[i]? = some (.loop N en ps asg body A B .ready none)) (hl : ps.length = args.length) (hps : ∀ p ∈ ps, p < N)
    (h : AW P N (some i) asg (putPs (ps.zip args) en) [] st (fun x en1 mk1 st1 => x = .normal ∧ mk1 = [] ∧ st1[i]? = some (.loop N en ps asg body A B .ready none) ∧
      AW P N (some i) body en1 [] (st1.set i (.loop N en ps asg body A B .busy none)) (RoundQ i N en ps asg body A B st R))) : AYield P i args st R := by
  intro n w ρ D vs b hW hb hV
  obtain ⟨b', r, k1, k2, k3, k4, k5, k6, k7, k8, k9⟩ := hW.obj i _ hst
  simp only at k1
  rw [hb] at k1
  injection k1 with k1; injection k1 with k1; injection k1 with k1; subst k1
  have hsz : vs.size = r.params.size := by rw [← hV.1, ← hl, ← k5]; simp
  refine ⟨_, _, _, _, run_yield k2 hsz, ?_⟩
  have hE : ER ⟨w, ρ, D, st⟩ (putPs (ps.zip args) en) N ((r.params.zip vs).foldl (fun tmps (t, a) => tmps.setIfInBounds t a) r.tmps) := by
    have := putPs_ok (c := ⟨w, ρ, D, st⟩) (vs := vs.toList) (args := args) ⟨k8, k9⟩ hps hl (by simpa using hV.1) (fun i x v hx hv => hV.2 i x v hx (by simpa using hv))
    rw [← Array.foldl_toList, Array.toList_zip, k5]
    exact this
  have hFR : FR ρ (some i) (Fence.wide.inRound b) := .inr ⟨i, b, rfl, hb, rfl⟩
  refine roundIn_of_wpIn trivial ?_
  rw [k6]
  refine wpIn_mono (h (Fence.wide.inRound b) n { tmps := _, defers := [] } w ρ D hFR hW hE ⟨rfl, fun j i d hj => by simp at hj⟩) ?_
  rintro e a' w' ⟨x, en1, mk1, st1, ρ', D', rfl, q1, q2, q3, q4, rfl, rfl, q5, q6⟩
  have hb1 : ρ'[i]? = some (.func (.yield b) #[] #[]) := by
    rcases q4.ρsame _ _ hb with h1 | ⟨_, _, _, _, _, _, h1, _⟩
    · exact h1
    · cases h1
  obtain ⟨b1, r1, l1, l2, l3, l4, l5, l6, l7, l8, l9⟩ := q1.obj i _ q5
  simp only at l1
  rw [hb1] at l1
  injection l1 with l1; injection l1 with l1; injection l1 with l1; subst l1
  obtain ⟨t1, t2⟩ := loop_turn (c := ⟨w', ρ', D', st1⟩) q1 (ls' := .busy) (pend' := none) q5 hb1 l2 ⟨l5, l6, l7, l8, l9⟩
  refine ⟨_, run_beginRound l2 l3, ?_⟩
  have hpn : ({ r1 with state := .busy } : Loop) = { r1 with state := .busy, pending := none } := by rw [← l4]
  rw [hpn, k7]
  have hmk : a'.defers = [] := by have := q3.1; simpa using this
  refine wpIn_mono (q6 (Fence.wide.inRound b) n a' _ ρ' D' (.inr ⟨i, b, rfl, hb1, rfl⟩) t1 (q2.ext t2) ⟨by simp [hmk], fun j i d hj => by simp at hj⟩) ?_
  rintro e a'' w'' ⟨x, en2, mk2, st2, ρ'', D'', rfl, u1, u2, u3, u4, rfl, u5, u6⟩
  have hb2 : ρ''[i]? = some (.func (.yield b) #[] #[]) := by
    rcases u4.ρsame _ _ hb1 with h1 | ⟨_, _, _, _, _, _, h1, _⟩
    · exact h1
    · cases h1
  obtain ⟨b2, r2, m1, m2, m3, m4, m5, m6, m7, m8, m9⟩ := u1.obj i _ u5
  simp only at m1
  rw [hb2] at m1
  injection m1 with m1; injection m1 with m1; injection m1 with m1; subst m1
  have hx : Ext ⟨w, ρ, D, st⟩ ⟨w'', ρ'', D'', st2⟩ := q4.trans (t2.trans u4)
  have fin : ∃ v w3, (Instr.endRound b x.pend).run P w'' = .ok v w3 ∧ Post ⟨w, ρ, D, st⟩ R (.returned v) w3 := by
    obtain ⟨v1, v2⟩ := loop_turn (c := ⟨w'', ρ'', D'', st2⟩) u1 (ls' := if x.pend.isNone then .ready else .done) (pend' := x.pend) u5 hb2 m2 ⟨m5, m6, m7, m8, m9⟩
    exact ⟨_, _, run_endRound x.pend m2, Fin.post (c0 := ⟨w, ρ, D, st⟩) hW v1 (hx.trans v2) (.sc rfl) u6⟩
  cases x with
  | normal => exact fin
  | ret => exact fin
  | exit id => exact fin

theorem callsIn_fr {ρ : List Value} {F : Fence} (hF : FR ρ rd F) {n f : Nat} {vs : Array Value} {w : World} {R : Ending → World → Prop} (h : Calls P f vs w R) : CallsIn F n P f vs w R := by
  have hci : CallsIn Fence.wide n P f vs w R := callsIn_wide.2 h
  rcases hF with ⟨_, rfl⟩ | ⟨i, b, _, _, rfl⟩
  · exact hci
  · exact CallsIn.inRound b hci

/-- What the loop leaves. -/
def RangeQ (i N : Nat) (en : Env) (ps : List Nat) (asg body : Code) (A B : AC) (mk : List Nat) (Q : AQ) : AV → List AO → Prop := fun _ st' =>
  ∃ ls x, st'[i]? = some (.loop N en ps asg body A B ls (AX.pend x)) ∧ ls ≠ .busy ∧ Q x en mk (st'.set i .dead)

/-- **A range over a function.** -/
theorem range_rule {g : Operand} {ps : List Nat} {asg body : Code} {A B : AC} {Q : AQ} {f k : Nat} {caps : List AV} (hg : opA en g = .fn f k caps)
    (hbody : ∀ vs w, (callFunc f vs).run P w = .ok (.enter f vs) w)
    (h : match rd with
      | none => AFn P (.fn f k caps) [.yl (st.length + 1)] (st ++ [.dfr] ++ [.loop N en ps asg body A B .ready none]) (RangeQ (st.length + 1) N en ps asg body A B (st.length :: mk) Q)
      | some j => (∃ N' en' ps' asg' body' A' B' ls pend, st[j]? = some (.loop N' en' ps' asg' body' A' B' ls pend)) ∧ AFn P (.fn f k caps) [.yl st.length] (st ++ [.loop N en ps asg body A B .ready none]) (RangeQ st.length N en ps asg body A B mk Q)) :
    RangeW P N rd g ps asg body en mk st Q := by
  intro F n a w ρ D hF hW hE hM
  have hl : ρ.length = st.length := hW.len
  refine wpIn_rangeFunc (fun fn hfn => ?_)
  -- the record, laid
  have key : ∃ l mark w1 ρ1 st1 i mk1, (Instr.enterLoop fn a.tmps ps.toArray asg body F.round).run P w = .ok (l, mark) w1 ∧ WR ⟨w1, ρ1, D, st1⟩ ∧ Ext ⟨w, ρ, D, st⟩ ⟨w1, ρ1, D, st1⟩ ∧
      ρ1[i]? = some (.func (.yield l) #[] #[]) ∧ MR ρ1 mk1 (mark ++ a.defers) ∧ AFn P (.fn f k caps) [.yl i] st1 (RangeQ i N en ps asg body A B mk1 Q) := by
    have push : ∀ {w0 : World} {ρ0 : List Value} {st0 : List AO} (r : Loop), WR ⟨w0, ρ0, D, st0⟩ → Ext ⟨w, ρ, D, st⟩ ⟨w0, ρ0, D, st0⟩ → r.state = .ready → r.pending = none → r.tmps = a.tmps → r.params = ps.toArray → r.assign = asg → r.body = body →
        WR ⟨w0.alloc (.loop r), ρ0 ++ [.func (.yield w0.heap.size) #[] #[]], D, st0 ++ [.loop N en ps asg body A B .ready none]⟩ ∧ Ext ⟨w0, ρ0, D, st0⟩ ⟨w0.alloc (.loop r), ρ0 ++ [.func (.yield w0.heap.size) #[] #[]], D, st0 ++ [.loop N en ps asg body A B .ready none]⟩ :=
      fun {w0 ρ0 st0} r h0 hx e1 e2 e3 e4 e5 e6 => WR.push (c := ⟨w0, ρ0, D, st0⟩) h0 (Grew.alloc w0 (.loop r)) (.func (.yield w0.heap.size) #[] #[]) (.loop N en ps asg body A B .ready none) (fun b hb _ _ => by simp [hblk] at hb; subst hb; simp) (fun c' q1 q2 q3 q4 hx' => by
        refine ⟨w0.heap.size, r, ?_, by rw [q1]; exact World.alloc_heap_new _ _, e1, e2, by rw [e4], e5, e6, by rw [e3]; exact hE.1, fun t => ?_⟩
        · rw [q3, ← h0.len]; simp
        · rw [e3]
          exact (hE.2 t).imp (fun h => h) (fun ⟨h1, h2⟩ => ⟨h1, h2.mono (hx.trans hx')⟩))
    rcases hF with ⟨hrd, rfl⟩ | ⟨j, b, hrd, hb, rfl⟩
    · subst hrd
      have hU := WR.push (c := ⟨w, ρ, D, st⟩) hW (Grew.alloc w (.deferred (some []))) (dfrH w.heap.size) .dfr (fun b hb _ _ => by simp [hblk, dfrH] at hb; subst hb; simp) (fun c' e1 e2 e3 e4 hx => by
        refine ⟨w.heap.size, ?_, by rw [e1]; exact World.alloc_heap_new _ _⟩
        rw [e3, ← hl]; simp)
      obtain ⟨p1, p2⟩ := push { state := .ready, pending := none, fn := fn, tmps := a.tmps, params := ps.toArray, assign := asg, body := body, defers := w.heap.size } hU.1 hU.2 rfl rfl rfl rfl rfl rfl
      refine ⟨_, _, _, ρ ++ [dfrH w.heap.size] ++ [.func (.yield (w.alloc (.deferred (some []))).heap.size) #[] #[]], st ++ [.dfr] ++ [.loop N en ps asg body A B .ready none], st.length + 1, st.length :: mk, run_enterLoop_outer fn a.tmps ps.toArray asg body, p1, hU.2.trans p2, ?_, ?_, h⟩
      · simp [← hl, List.getElem?_append_right]
      · refine ⟨by simp [hM.1], fun q i d hi hd => ?_⟩
        cases q with
        | zero => simp at hi hd; subst hi; subst hd; exact ⟨w.heap.size, by simp [← hl], rfl⟩
        | succ q =>
          simp at hi hd
          obtain ⟨b0, h1, h2⟩ := hM.2 q i d hi hd
          refine ⟨b0, ?_, h2⟩
          rw [List.getElem?_append_left (by have := (List.getElem?_eq_some_iff.1 h1).1; simp; omega), List.getElem?_append_left (List.getElem?_eq_some_iff.1 h1).1]; exact h1
    · subst hrd
      obtain ⟨⟨N', en', ps', asg', body', A', B', ls, pend, hj⟩, h⟩ := h
      obtain ⟨b', r', k1, k2, _⟩ := hW.obj j _ hj
      simp only at k1
      rw [hb] at k1
      injection k1 with k1; injection k1 with k1; injection k1 with k1; subst k1
      obtain ⟨p1, p2⟩ := push { state := .ready, pending := none, fn := fn, tmps := a.tmps, params := ps.toArray, assign := asg, body := body, defers := r'.defers } hW (.refl _) rfl rfl rfl rfl rfl rfl
      refine ⟨w.heap.size, [], _, _, _, st.length, mk, ?_, p1, p2, by simp [← hl], ?_, h⟩
      · show (Instr.enterLoop fn a.tmps ps.toArray asg body (some b)).run P w = _
        unfold Instr.enterLoop
        simp only [Sem.run_bind, run_getLoop k2, Result.andThen, Sem.run_pure]
        rfl
      · refine ⟨by simp [hM.1], fun q i d hi hd => ?_⟩
        obtain ⟨b0, h1, h2⟩ := hM.2 q i d hi (by simpa using hd)
        exact ⟨b0, by rw [List.getElem?_append_left (List.getElem?_eq_some_iff.1 h1).1]; exact h1, h2⟩
  obtain ⟨l, mark, w1, ρ1, st1, i, mk1, k1, k2, k3, k4, k5, k6⟩ := key
  have hgv := (hE.opA (a := a) g).mono k3
  rw [hg] at hgv
  generalize hge : a.eval g = gv at hgv
  cases hgv with
  | @fn _ _ _ us vs hk hlen hh =>
    have hV : VRs ⟨w1, ρ1, D, st1⟩ (caps.take k ++ [.yl i] ++ caps.drop k) (us ++ #[.func (.yield l) #[] #[]] ++ vs) := by
      have hul : (caps.take k).length = us.size := by simp at hlen ⊢; omega
      refine ⟨by simp at hlen ⊢; omega, fun q x v hx hv => ?_⟩
      by_cases hi : q < us.size
      · rw [List.append_assoc, List.getElem?_append_left (by omega), List.getElem?_take, if_pos (by omega)] at hx
        rw [Array.append_assoc, Array.getElem?_append_left hi] at hv
        exact hh q x v hx (by rw [Array.getElem?_append_left hi]; exact hv)
      · by_cases hi2 : q < us.size + 1
        · have hq : q = us.size := by omega
          subst hq
          rw [List.append_assoc, List.getElem?_append_right (by omega), List.getElem?_append_left (by simp at hul ⊢; omega)] at hx
          rw [Array.append_assoc, Array.getElem?_append_right (by omega), Array.getElem?_append_left (by simp)] at hv
          rw [hul] at hx
          simp at hx hv
          subst hx; subst hv
          exact .yl k4
        · rw [List.getElem?_append_right (by simp at hul ⊢; omega), List.getElem?_drop] at hx
          rw [Array.getElem?_append_right (by simp; omega)] at hv
          simp only [List.length_append, List.length_singleton, Array.size_append, List.size_toArray, hul] at hx hv
          refine hh _ x v hx ?_
          rw [Array.getElem?_append_right (by omega), ← hv]
          congr 1; omega
    refine ⟨l, mark, w1, { target := .fn (.func f) vs, args := us ++ #[.func (.yield l) #[] #[]] }, w1, f, us ++ #[.func (.yield l) #[] #[]] ++ vs, w1, k1, ?_, fun f' _ => hF.fn f', ?_, (fun hd => by rw [hF.depth] at hd; cases hd), ?_⟩
    · have hcst : a.eval (.const (.func (.yield l) #[] #[])) = .func (.yield l) #[] #[] := rfl
      simp [resolve, rangeCall, hge, hcst, Deferred.ofValue, Sem.run_bind]
    · simp only [invoke]; exact hbody _ _
    · rcases k6 w1 ρ1 D _ k2 hV with ⟨_, hc⟩ | ⟨v, w', hc, _⟩
      · refine (callsIn_fr (n := n - 1) hF hc).mono ?_
        rintro e w3 ⟨v, x, st', ρ', D', rfl, q1, q2, q3, ls, y, q4, q5, q6⟩
        have hb2 : ρ'[i]? = some (.func (.yield l) #[] #[]) := by
          rcases q3.ρsame _ _ k4 with h1 | ⟨_, _, _, _, _, _, h1, _⟩
          · exact h1
          · cases h1
        obtain ⟨b2, r2, m1, m2, m3, m4, m5, m6, m7, m8, m9⟩ := q1.obj i _ q4
        simp only at m1
        rw [hb2] at m1
        injection m1 with m1; injection m1 with m1; injection m1 with m1; subst m1
        obtain ⟨t1, t2⟩ := loop_dead (c := ⟨w3, ρ', D', st'⟩) (r' := { r2 with state := .exhausted }) q1 q4 hb2
        have hrun := run_endLoop (P := P) m2 (by rw [m3]; exact q5)
        generalize w3.putObj l (.loop { r2 with state := .exhausted }) = w4 at t1 t2 hrun
        have hX : Ext ⟨w, ρ, D, st⟩ ⟨w4, ρ', D', st'.set i .dead⟩ := k3.trans (q3.trans t2)
        have post : APost N ⟨w, ρ, D, st⟩ Q (AX.ex y) { a with defers := mark ++ a.defers } w4 :=
          ⟨y, en, mk1, _, ρ', D', rfl, t1, ER.ext hX hE, MR.ext (c := ⟨w1, ρ1, D, st1⟩) (q3.trans t2) k5, hX, q6⟩
        refine ⟨_, _, hrun, ?_⟩
        rw [m4]
        cases y with
        | normal => exact post
        | ret => exact wpIn_ret post
        | exit id => exact wpIn_exit post
      · rw [hbody] at hc; cases hc

end
end Go.AW
