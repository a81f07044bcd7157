/-
  What an operation comes to; drawn regions.
-/
import Derived.Test.YtkpnemmniepchaaGreatW4
import Derived.OrdersIn
/-
  AW, part 15: what an operation comes to is right; regions.
-/
namespace Go.AW
open Go Go.RowKit
set_option linter.unusedVariables false
set_option linter.unusedSimpArgs false

section
variable {P : Program} {N : Nat} {rd : Option Nat} {o : Oper} {en : Env} {mk : List Nat} {st : List AO} {K : AV → List AO → Prop} {c : Cx} {a : Act}


variable (P N rd) in
/-- What an operation, as it is read, comes to: a raw one by what the model says of it. -/
def opC (mk : List Nat) (ao : AOp) (en : Env) (st : List AO) (K : AV → List AO → Prop) : Prop := match ao with
  | .alloc cs => K (.ref st.length 0) (st ++ [.cells cs])
  | .box x => match (opA en x).cells? with
    | some cs => K (.ref st.length 0) (st ++ [.cells cs])
    | none => False
  | .mksl _ sz ps => (∀ x ∈ ps.map (opA en), x.nrm.pure1 = true ∧ x.nrm.cells.length = sz) ∧ K (.sl true (ps.map fun y => (opA en y).nrm)) st
  | .store n x y => match opA en x, (opA en y).cells? with
    | .ref j off, some vs => match st[j]? with
      | some (.cells cs) => (vs.length = n ∧ off + n ≤ cs.length) ∧ K .any (st.set j (.cells (putAt cs off vs)))
      | _ => False
    | .ep s sz i off, some vs => match elemA st sz i s with
      | some (g, j) => match st[g]? with
        | some (.acc e sz' xs) => match xs[j]? with
          | some el => match el.cells? with
            | some cs => (sz' = sz ∧ vs.length = n ∧ vs ≠ [] ∧ off + n ≤ cs.length ∧ ∀ x ∈ vs, x.nrmC.flatOk = true) ∧ K .any (st.set g (.acc e sz (xs.set j (setE el off vs))))
            | none => False
          | none => False
        | _ => False
      | none => False
    | _, _ => False
  | .call f args => AFn P (opA en f) (args.map (opA en)) st K
  | .app e sz bytes x y => match rdA st (opA en y) with
    | none => False
    | some ys => (∀ y ∈ ys, y.pure1 = true ∧ y.cells.length = sz) ∧ match opA en x with
      | .acc g n => match st[g]? with
        | some (.acc e' sz' xs) => (n = xs.length ∧ e' = e ∧ sz' = sz ∧ (xs.length + ys.length) * bytes ≤ 140737488355328 ∧ xs.length + ys.length ≤ 140737488355328) ∧ K (.acc g (n + ys.length)) (st.set g (.acc e sz (xs ++ ys)))
        | _ => False
      | .sl true xs => match ys with
        | [] => K (.sl true xs) st
        | y :: ys => ((∀ y ∈ xs, y.cells.length = sz) ∧ (xs.length + (ys.length + 1)) * bytes ≤ 140737488355328 ∧ xs.length + (ys.length + 1) ≤ 140737488355328) ∧ K (.acc st.length (xs.length + (ys.length + 1))) (st ++ [.acc e sz (xs ++ y :: ys)])
      | .av g M sz' 0 k => match st[g]? with
        | some (.acc e' sz'' xs) => (M = xs.length ∧ e' = e ∧ sz' = sz ∧ sz'' = sz ∧ k + ys.length ≤ M) ∧ K (.av g M sz 0 (k + ys.length)) (st.set g (.acc e sz (xs.take k ++ ys ++ xs.drop (k + ys.length))))
        | _ => False
      | _ => False
  | .len str x => match lenA str (opA en x) with
    | some v => (∀ n, slen (opA en x) = some n → n ≤ 140737488355328) → K v st
    | none => False
  | .isnil neg x => match slen (opA en x) with
    | some (_ + 1) => K (.sc (.bool neg)) st
    | some 0 => ∀ b, K (.sc (.bool b)) st
    | none => False
  | .cap x => match opA en x with
    | .sl true xs => K (.sc (.int .i64 (xs.length : Int))) st
    | s => match slen s with
      | some n => ∀ c, n ≤ c → c ≤ maxLen → K (.sc (.int .i64 (c : Int))) st
      | none => False
  | .mkmap _ => K (.mp st.length) (st ++ [.map 0 []])
  | .mupd tag x k v => match opA en x, keyG tag (opA en k), opA en v with
    | .mp i, some key, .sc val => match st[i]? with
      | some (.map clk ents) => match findK key ents 0 with
        | some (some j) => K .any (st.set i (.map clk (ents.modify j fun e => { e with key := key, val := val })))
        | some none => (ents.length < 140737488355328 ∧ clk < 140737488355328) ∧ K .any (st.set i (.map (clk + 1) (ents ++ [⟨key, val, clk⟩])))
        | none => False
      | _ => False
    | _, _, _ => False
  | .mentry tag z x k => match opA en x, keyG tag (opA en k) with
    | .mp i, some key => match st[i]? with
      | some (.map clk ents) => match findK key ents 0 with
        | some (some j) => ∀ e, ents[j]? = some e → K (.tup [constA e.val, .sc (.int .i64 (e.born : Int))]) (st.set i (.map clk (ents.modify j fun e => { e with key := key })))
        | some none => (ents.length < 140737488355328 ∧ clk < 140737488355328) ∧ K (.tup [constA z, .sc (.int .i64 (clk : Int))]) (st.set i (.map (clk + 1) (ents ++ [⟨key, z, clk⟩])))
        | none => False
      | _ => False
    | _, _ => False
  | .estore x s v => match opA en x, opA en s, opA en v with
    | .mp i, .sc (.int _ n), .sc val => match st[i]? with
      | some (.map clk ents) => match ents.findIdx? (fun e => (e.born : Int) == n) with
        | some j => K .any (st.set i (.map clk (ents.modify j fun e => { e with val := val })))
        | none => False
      | _ => False
    | _, _, _ => False
  | .mdel tag x k => match opA en x, keyG tag (opA en k) with
    | .mp i, some key => match st[i]? with
      | some (.map clk ents) => match findK key ents 0 with
        | some (some j) => K .any (st.set i (.map clk (ents.eraseIdx j)))
        | some none => K .any st
        | none => False
      | _ => False
    | _, _ => False
  | .range x => match opA en x with
    | .mp i => match st[i]? with
      | some (.map clk _) => K (.ref st.length 0) (st ++ [.iter i clk [] clk])
      | _ => False
    | _ => False
  | .next x => match opA en x with
    | .ref i 0 => match st[i]? with
      | some (.iter m since seen last) => match st[m]? with
        | some (.map clk ents) => ((∀ e ∈ ents, e.born < since) ∧ since ≤ last) ∧ (ents.filter (fun e => !seen.contains e.born) = [] → K (.tup [.sc (.bool false)]) st) ∧
            ∀ e ∈ ents.filter (fun e => !seen.contains e.born), K (.tup [.sc (.bool true), constA e.key, constA e.val]) (st.set i (.iter m since (seen ++ [e.born]) clk))
        | _ => False
      | _ => False
    | _ => False
  | .clear _ sz z x => match viewA st sz (opA en x) with
    | some (g, lo, n) => match st[g]? with
      | some (.acc e' sz' xs) => (sz' = sz ∧ z.pure1 = true) ∧ K .any (st.set g (.acc e' sz (xs.take lo ++ List.replicate n z ++ xs.drop (lo + n))))
      | _ => False
    | none => False
  | .raw o => OpS P N rd o en mk st K
  | q => match evQ q en st with
    | some v => K v st
    | none => False

theorem dec_raw {o o' : Oper} (h : dec P o = .raw o') : o' = o := by
  unfold dec at h
  (repeat' split at h) <;> first | (injection h with h; exact h.symm) | cases h

theorem quiet_of (h : match evQ (dec P o) en st with | some v => K v st | none => False) : OpS P N rd o en mk st K := by
  split at h
  · exact ops_quiet ‹_› h
  · exact h.elim

theorem slen_le {s : AV} {v : Value} {n : Nat} (h : VR c s v) (hs : slen s = some n) : n ≤ 140737488355328 := by
  obtain ⟨_, _, _, _, h, _⟩ := h.slen_ok hs
  exact h

theorem len_of {str : Bool} {x : Operand} (hd : dec P o = .len str x) (h : opC P N rd mk (.len str x) en st K) : OpS P N rd o en mk st K := by
  simp only [opC] at h
  split at h
  · rename_i v hv
    have hq : evQ (dec P o) en st = some v := by rw [hd]; simpa [evQ] using hv
    refine ops_run (fun d hdf => by rw [dec_defer hdf] at hd; cases hd) (fun w ρ D a hW hE => ?_)
    obtain ⟨u, h1, h2⟩ := evQ_ok (c := ⟨w, ρ, D, st⟩) hW hE hq
    exact ⟨u, v, w, ρ, D, st, .inl h1, hW, h2, .refl _, h (fun n hn => slen_le (hE.opA (a := a) x) hn)⟩
  · exact h.elim

theorem isnil_of {neg : Bool} {x : Operand} (hd : dec P o = .isnil neg x) (h : opC P N rd mk (.isnil neg x) en st K) : OpS P N rd o en mk st K := by
  simp only [opC] at h
  split at h
  · rename_i n hn
    exact ops_quiet (x := .sc (.bool neg)) (by rw [hd]; simp [evQ, hn]) h
  · rename_i hn
    cases ho : o.op with
    | binOp op t y z t' =>
      have hz : isNilC z = true ∧ y = x ∧ ∃ e, P.underlying t = some (.slice e) ∧ (op = .eql ∨ op = .neq) := by
        simp only [dec, ho] at hd
        split at hd
        · rename_i e hu
          split at hd
          · rename_i hz
            split at hd
            · injection hd with h1 h2; exact ⟨hz, h2, e, hu, .inl rfl⟩
            · injection hd with h1 h2; exact ⟨hz, h2, e, hu, .inr rfl⟩
            · cases hd
          · cases hd
        · cases hd
        · cases hd
      obtain ⟨hz, rfl, e, hu, hop⟩ := hz
      refine ops_run (by simp [ho]) (fun w ρ D a hW hE => ?_)
      have hzv : a.eval z = .slice none 0 0 := by
        cases z with
        | const u =>
          cases u <;> simp [isNilC] at hz
          rename_i ad n cp
          cases ad <;> cases n <;> cases cp <;> simp [isNilC] at hz
          rfl
        | _ => simp [isNilC] at hz
      obtain ⟨ad, cp, hv, _⟩ := (hE.opA (a := a) y).slen_ok hn
      have hr : ∃ b, (binOp op t (a.eval y) (a.eval z)).run P w = .ok (.bool b) w := by
        rw [hv, hzv]
        rcases hop with rfl | rfl
        · cases ad with
          | none => exact ⟨true, by
              show (do pure (.bool (← Op.equalIn (9999 + 1) t (.slice none 0 cp) (.slice none 0 0))) : Sem Value).run P w = _
              rw [Sem.run_bind, Op.equalIn, Sem.run_bind, run_under hu]; rfl⟩
          | some ad => exact ⟨false, by
              show (do pure (.bool (← Op.equalIn (9999 + 1) t (.slice (some ad) 0 cp) (.slice none 0 0))) : Sem Value).run P w = _
              rw [Sem.run_bind, Op.equalIn, Sem.run_bind, run_under hu]; rfl⟩
        · cases ad with
          | none => exact ⟨false, by
              show (do pure (.bool (!(← Op.equalIn (9999 + 1) t (.slice none 0 cp) (.slice none 0 0)))) : Sem Value).run P w = _
              rw [Sem.run_bind, Op.equalIn, Sem.run_bind, run_under hu]; rfl⟩
          | some ad => exact ⟨true, by
              show (do pure (.bool (!(← Op.equalIn (9999 + 1) t (.slice (some ad) 0 cp) (.slice none 0 0)))) : Sem Value).run P w = _
              rw [Sem.run_bind, Op.equalIn, Sem.run_bind, run_under hu]; rfl⟩
      obtain ⟨b, hr⟩ := hr
      refine ⟨.bool b, .sc (.bool b), w, ρ, D, st, .inl ?_, hW, .sc rfl, .refl _, h b⟩
      have : (execOp a.eval o) = (do pure (.value (← (do eqGuard op t y z (a.eval y) (a.eval z); binOp op t (a.eval y) (a.eval z) : Sem Value))) : Sem Next) := by simp [execOp, ho]
      rw [this, Sem.run_bind, Sem.run_bind, run_eqGuard_quiet _ _ _ _ _ _ _ (by rw [hv]; simp) (by rw [hv]; simp)]
      simp only [Result.andThen_ok, hr]
      rfl
    | _ => exfalso; simp only [dec, ho] at hd; (repeat' split at hd) <;> (first | contradiction | (cases hd; first | done | contradiction))
  · exact h.elim

theorem cap_of {x : Operand} (hd : dec P o = .cap x) (h : opC P N rd mk (.cap x) en st K) : OpS P N rd o en mk st K := by
  simp only [opC] at h
  split at h
  · rename_i xs hx
    exact ops_quiet (x := .sc (.int .i64 (xs.length : Int))) (by rw [hd]; simp [evQ, hx]) h
  · split at h
    case h_2 => exact h.elim
    rename_i n hn
    cases ho : o.op with
    | call cl =>
      cases hcal : cl.callee with
      | builtin b =>
        cases b with
        | cap =>
          simp only [dec, ho, hcal] at hd
          split at hd
          case h_2 => cases hd
          rename_i y t hargs htys
          split at hd
          case h_2 => cases hd
          rename_i e hu
          injection hd with hd; subst hd
          have hA : cl.args = #[y] := by rw [← Array.toList_inj]; simpa using hargs
          have hT : cl.argTypes = #[t] := by rw [← Array.toList_inj]; simpa using htys
          refine ops_run (by simp [ho]) (fun w ρ D a hW hE => ?_)
          obtain ⟨ad, cp, hv, _, _, h1, h2⟩ := (hE.opA (a := a) y).slen_ok hn
          refine ⟨.int .i64 cp, .sc (.int .i64 cp), w, ρ, D, st, .inl ?_, hW, .sc ?_, .refl _, h cp h1 h2⟩
          · simp [execOp, ho, resolve, hcal, hA, hT, invoke, builtin, Builtin.cap_, hv, Sem.run_bind, run_under hu, goInt]
          · unfold maxLen at h2
            simp [plainV, IntKind.min, IntKind.max, IntKind.bits, IntKind.signed]; omega
        | _ => exfalso; simp only [dec, ho, hcal] at hd; (repeat' split at hd) <;> (first | contradiction | (cases hd; first | done | contradiction))
      | _ => exfalso; simp only [dec, ho, hcal] at hd; (repeat' split at hd) <;> (first | contradiction | (cases hd; first | done | contradiction))
    | _ => exfalso; simp only [dec, ho] at hd; (repeat' split at hd) <;> (first | contradiction | (cases hd; first | done | contradiction))

set_option maxHeartbeats 4000000 in
theorem opC_ok (h : opC P N rd mk (dec P o) en st K) : OpS P N rd o en mk st K := by
  cases hd : dec P o with
  | alloc cs =>
    rw [hd] at h
    cases ho : o.op with
    | alloc t =>
      simp only [dec, ho] at hd
      split at hd
      · rename_i z hz
        split at hd
        · rename_i cs' hcs
          injection hd with hd; subst hd
          exact ops_alloc ho hz hcs h
        · cases hd
      · cases hd
    | _ => exfalso; simp only [dec, ho] at hd; (repeat' split at hd) <;> (first | contradiction | (cases hd; first | done | contradiction))
  | box x =>
    rw [hd] at h
    cases ho : o.op with
    | box t y =>
      simp only [dec, ho] at hd
      injection hd with hd; subst hd
      simp only [opC] at h
      split at h
      · exact ops_box ho ‹_› h
      · exact h.elim
    | _ => exfalso; simp only [dec, ho] at hd; (repeat' split at hd) <;> (first | contradiction | (cases hd; first | done | contradiction))
  | mksl e sz ps =>
    rw [hd] at h
    cases ho : o.op with
    | buildSlice t n parts => exact ops_mksl ho hd (fun x hx => (h.1 x hx).1) (fun x hx => (h.1 x hx).2) h.2
    | _ => exfalso; simp only [dec, ho] at hd; (repeat' split at hd) <;> (first | contradiction | (cases hd; first | done | contradiction))
  | store n x y =>
    rw [hd] at h
    cases ho : o.op with
    | store t y z =>
      simp only [dec, ho] at hd
      split at hd
      · rename_i i hi
        injection hd with h1 h2 h3
        subst h1; subst h2; subst h3
        simp only [opC] at h
        split at h
        · rename_i j off vs hx hv
          split at h
          · rename_i cs hj
            exact ops_store ho hi hx hj hv h.1.1 h.1.2 h.2
          · exact h.elim
        · rename_i s sz i' off vs hx hv
          split at h
          case h_2 => exact h.elim
          rename_i g j hg
          split at h
          case h_2 => exact h.elim
          rename_i e sz' xs hst
          split at h
          case h_2 => exact h.elim
          rename_i el hel
          split at h
          case h_2 => exact h.elim
          rename_i cs hcs
          obtain ⟨⟨rfl, h2, h3, h4, h5⟩, h6⟩ := h
          exact ops_store_ep ho hi hx hg hst hel hcs hv h2 h3 h4 h5 h6
        · exact h.elim
      · cases hd
    | _ => exfalso; simp only [dec, ho] at hd; (repeat' split at hd) <;> (first | contradiction | (cases hd; first | done | contradiction))
  | call f args =>
    rw [hd] at h
    cases ho : o.op with
    | call cl =>
      cases hc : cl.callee with
      | value g =>
        simp only [dec, ho, hc] at hd
        injection hd with h1 h2
        subst h1; subst h2
        exact ops_call ho hc h
      | _ => exfalso; simp only [dec, ho, hc] at hd; (repeat' split at hd) <;> (first | contradiction | (cases hd; first | done | contradiction))
    | _ => exfalso; simp only [dec, ho] at hd; (repeat' split at hd) <;> (first | contradiction | (cases hd; first | done | contradiction))
  | app e sz bytes x y =>
    rw [hd] at h
    cases ho : o.op with
    | call cl =>
      cases hc : cl.callee with
      | builtin b =>
        cases b with
        | append =>
          simp only [opC] at h
          split at h
          · exact h.elim
          · rename_i ys hys
            obtain ⟨hpy, h⟩ := h
            split at h
            · rename_i g n hx
              split at h
              · rename_i e' sz' xs hg
                obtain ⟨⟨h1, rfl, rfl, h4, h5⟩, h6⟩ := h
                exact ops_app_acc ho hc hd hx hg h1 hys (fun y hy => (hpy y hy).1) (fun y hy => (hpy y hy).2) h4 h5 h6
              · exact h.elim
            · rename_i xs hx
              split at h
              · exact ops_app_none ho hc hd hx hys h
              · rename_i y0 ys'
                obtain ⟨⟨h1, h3, h4⟩, h5⟩ := h
                exact ops_app_clip ho hc hd hx hys h1 (fun y hy => (hpy y hy).1) (fun y hy => (hpy y hy).2) (by simp) (by simpa using h3) (by simpa using h4) (by simpa using h5)
            · rename_i g M sz' k hx
              split at h
              · rename_i e' sz'' xs hg
                obtain ⟨⟨h1, rfl, rfl, rfl, h4⟩, h6⟩ := h
                exact ops_app_av ho hc hd hx hg h1 hys (fun y hy => (hpy y hy).1) (fun y hy => (hpy y hy).2) h4 h6
              · exact h.elim
            · exact h.elim
        | _ => exfalso; simp only [dec, ho, hc] at hd; (repeat' split at hd) <;> (first | contradiction | (cases hd; first | done | contradiction))
      | _ => exfalso; simp only [dec, ho, hc] at hd; (repeat' split at hd) <;> (first | contradiction | (cases hd; first | done | contradiction))
    | _ => exfalso; simp only [dec, ho] at hd; (repeat' split at hd) <;> (first | contradiction | (cases hd; first | done | contradiction))
  | len str x => exact len_of hd (hd ▸ h)
  | isnil neg x => exact isnil_of hd (hd ▸ h)
  | cap x => exact cap_of hd (hd ▸ h)
  | mkmap t =>
    rw [hd] at h
    cases ho : o.op with
    | makeMap t' r =>
      cases r with
      | none => exact ops_mkmap ho h
      | some _ => exfalso; simp [dec, ho] at hd
    | _ => exfalso; simp only [dec, ho] at hd; (repeat' split at hd) <;> (first | contradiction | (cases hd; first | done | contradiction))
  | mupd tag x k v =>
    rw [hd] at h
    simp only [opC] at h
    split at h
    case h_2 => exact h.elim
    rename_i i key val hx hk hv
    split at h
    case h_2 => exact h.elim
    rename_i clk ents hst
    have fin : ∀ {t kt et}, (o.op = .mapUpdate t x k v ∨ o.op = .insert t x k v) → P.underlying t = some (.map kt et) → keyT P kt = some tag → OpS P N rd o en mk st K := fun ho hu hkt => by
      split at h
      · rename_i j hf
        exact ops_mupd (r := some j) ho hu hkt hx hk hv hst hf h
      · rename_i hf
        exact ops_mupd (r := none) ho hu hkt hx hk hv hst hf h
      · exact h.elim
    cases ho : o.op with
    | mapUpdate t y z u =>
      simp only [dec, ho] at hd
      split at hd
      case h_2 => cases hd
      rename_i kt et hu
      split at hd
      case h_2 => cases hd
      rename_i tag' hkt
      injection hd with h1 h2 h3 h4
      subst h1; subst h2; subst h3; subst h4
      exact fin (.inl ho) hu hkt
    | insert t y z u =>
      simp only [dec, ho] at hd
      split at hd
      case h_2 => cases hd
      rename_i kt et hu
      split at hd
      case h_2 => cases hd
      rename_i tag' hkt
      injection hd with h1 h2 h3 h4
      subst h1; subst h2; subst h3; subst h4
      exact fin (.inr ho) hu hkt
    | _ => exfalso; simp only [dec, ho] at hd; (repeat' split at hd) <;> (first | contradiction | (cases hd; first | done | contradiction))
  | mentry tag z x k =>
    rw [hd] at h
    simp only [opC] at h
    split at h
    case h_2 => exact h.elim
    rename_i i key hx hk
    split at h
    case h_2 => exact h.elim
    rename_i clk ents hst
    cases ho : o.op with
    | mapEntry t y z' =>
      simp only [dec, ho] at hd
      split at hd
      case h_2 => cases hd
      rename_i kt et hu
      split at hd
      case h_2 => cases hd
      rename_i zv hz
      split at hd
      case h_2 => cases hd
      rename_i tag' hkt
      injection hd with h1 h2 h3 h4
      subst h1; subst h2; subst h3; subst h4
      split at h
      · rename_i j hf
        exact ops_mentry (r := some j) ho hu hz hkt hx hk hst hf h
      · rename_i hf
        exact ops_mentry (r := none) ho hu hz hkt hx hk hst hf h
      · exact h.elim
    | _ => exfalso; simp only [dec, ho] at hd; (repeat' split at hd) <;> (first | contradiction | (cases hd; first | done | contradiction))
  | estore x s v =>
    rw [hd] at h
    simp only [opC] at h
    split at h
    case h_2 => exact h.elim
    rename_i i _ n val hx hs hv
    split at h
    case h_2 => exact h.elim
    rename_i clk ents hst
    split at h
    case h_2 => exact h.elim
    rename_i j hj
    cases ho : o.op with
    | entryStore t y z u =>
      simp only [dec, ho] at hd
      injection hd with h1 h2 h3
      subst h1; subst h2; subst h3
      exact ops_estore ho hx hs hv hst hj h
    | _ => exfalso; simp only [dec, ho] at hd; (repeat' split at hd) <;> (first | contradiction | (cases hd; first | done | contradiction))
  | mdel tag x k =>
    rw [hd] at h
    simp only [opC] at h
    split at h
    case h_2 => exact h.elim
    rename_i i key hx hk
    split at h
    case h_2 => exact h.elim
    rename_i clk ents hst
    cases ho : o.op with
    | call cl =>
      cases hc : cl.callee with
      | builtin b =>
        cases b with
        | delete =>
          simp only [dec, ho, hc] at hd
          split at hd
          case h_2 => cases hd
          rename_i y z t rt hargs htys
          split at hd
          case h_2 => cases hd
          rename_i kt et hu
          split at hd
          case h_2 => cases hd
          rename_i tag' hkt
          injection hd with h1 h2 h3
          subst h1; subst h2; subst h3
          have hA : cl.args = #[y, z] := by rw [← Array.toList_inj]; simpa using hargs
          have hT : cl.argTypes = (t :: rt).toArray := by rw [← Array.toList_inj]; simpa using htys
          split at h
          · rename_i j hf
            exact ops_mdel (t' := 0) (r := some j) ho hc hA ⟨rt, hT⟩ hu hkt hx hk hst hf h
          · rename_i hf
            exact ops_mdel (t' := 0) (r := none) ho hc hA ⟨rt, hT⟩ hu hkt hx hk hst hf h
          · exact h.elim
        | _ => exfalso; simp only [dec, ho, hc] at hd; (repeat' split at hd) <;> (first | contradiction | (cases hd; first | done | contradiction))
      | _ => exfalso; simp only [dec, ho, hc] at hd; (repeat' split at hd) <;> (first | contradiction | (cases hd; first | done | contradiction))
    | _ => exfalso; simp only [dec, ho] at hd; (repeat' split at hd) <;> (first | contradiction | (cases hd; first | done | contradiction))
  | range x =>
    rw [hd] at h
    simp only [opC] at h
    split at h
    case h_2 => exact h.elim
    rename_i i hx
    split at h
    case h_2 => exact h.elim
    rename_i clk ents hst
    cases ho : o.op with
    | range t y =>
      simp only [dec, ho] at hd
      split at hd
      case h_2 => cases hd
      rename_i kt et hu
      injection hd with h1; subst h1
      exact ops_range ho hu hx hst h
    | _ => exfalso; simp only [dec, ho] at hd; (repeat' split at hd) <;> (first | contradiction | (cases hd; first | done | contradiction))
  | next x =>
    rw [hd] at h
    simp only [opC] at h
    split at h
    case h_2 => exact h.elim
    rename_i i hx
    split at h
    case h_2 => exact h.elim
    rename_i m since seen last hst
    split at h
    case h_2 => exact h.elim
    rename_i clk ents hm
    cases ho : o.op with
    | next y b =>
      cases b with
      | false =>
        simp only [dec, ho] at hd
        injection hd with h1; subst h1
        exact ops_next ho hx hst hm h.1.1 h.1.2 h.2.1 h.2.2
      | true => exfalso; simp [dec, ho] at hd
    | _ => exfalso; simp only [dec, ho] at hd; (repeat' split at hd) <;> (first | contradiction | (cases hd; first | done | contradiction))
  | clear e sz z x =>
    rw [hd] at h
    simp only [opC] at h
    split at h
    case h_2 => exact h.elim
    rename_i g lo n hx
    split at h
    case h_2 => exact h.elim
    rename_i e' sz' xs hst
    obtain ⟨⟨rfl, hpz⟩, h⟩ := h
    cases ho : o.op with
    | call cl =>
      cases hc : cl.callee with
      | builtin b =>
        cases b with
        | clear =>
          simp only [dec, ho, hc] at hd
          split at hd
          case h_2 => cases hd
          rename_i y t hargs htys
          split at hd
          case h_2 => cases hd
          rename_i e0 hu
          split at hd
          case h_2 => cases hd
          rename_i i hi
          split at hd
          case h_2 => cases hd
          rename_i zv hz
          split at hd
          case isFalse => cases hd
          rename_i hcond
          injection hd with h1 h2 h3 h4
          subst h1; subst h2; subst h3; subst h4
          have hA : cl.args = #[y] := by rw [← Array.toList_inj]; simpa using hargs
          have hT : cl.argTypes = #[t] := by rw [← Array.toList_inj]; simpa using htys
          obtain ⟨cs, hcs⟩ := Option.isSome_iff_exists.1 hcond.2.2
          exact ops_clear (sz := 0) ho hc hA hT hu hi hz hcond.2.1 hcs hpz hx hst h
        | _ => exfalso; simp only [dec, ho, hc] at hd; (repeat' split at hd) <;> (first | contradiction | (cases hd; first | done | contradiction))
      | _ => exfalso; simp only [dec, ho, hc] at hd; (repeat' split at hd) <;> (first | contradiction | (cases hd; first | done | contradiction))
    | _ => exfalso; simp only [dec, ho] at hd; (repeat' split at hd) <;> (first | contradiction | (cases hd; first | done | contradiction))
  | raw o' => have := dec_raw hd; subst this; rw [hd] at h; exact h
  | _ => refine quiet_of ?_; rw [hd] at h ⊢; exact h

theorem OpS.mono {K' : AV → List AO → Prop} (h : OpS P N rd o en mk st K) (hk : ∀ x st, K x st → K' x st) : OpS P N rd o en mk st K' :=
  fun F n a w ρ D next Q hF hW hE hM hnext => h F n a w ρ D next Q hF hW hE hM (fun v w' ρ' D' x st' k1 k2 k3 k4 => hnext v w' ρ' D' x st' k1 k2 k3 (hk _ _ k4))

/-- Is an operation wanted? -/
def guardA (ops : Array Oper) (en : Env) (o : Oper) : Option Bool := match o.guard with
  | none => some true
  | some (j, want) => match (ops[j]?).bind (·.dst) with
    | some t => match en.get t with
      | .sc (.bool b) => some (b == want)
      | .tup [] => some false
      | _ => none
    | none => none

theorem VR.undef {c : Cx} : VR c (.tup []) Go.undef := .tup rfl (fun i x v hx => by simp at hx)

theorem guardA_ok {ops : Array Oper} {b : Bool} (hE : ER c en N a.tmps) (h : guardA ops en o = some b) : Region.wanted o (yielded ops a.tmps) = b := by
  unfold guardA at h
  unfold Region.wanted
  split at h
  · rename_i hg; rw [hg]; injection h
  · rename_i j want hg
    rw [hg]
    simp only
    split at h
    · rename_i t ht
      have tmp : ∀ v, a.tmps.getD t Go.undef = v → v ≠ Go.undef → a.tmps[t]? = some v := fun v hv hne => by
        rw [Array.getD_eq_getD_getElem?] at hv
        cases hq : a.tmps[t]? with
        | none => rw [hq] at hv; exact absurd hv.symm hne
        | some q => rw [hq] at hv; simp at hv; rw [hv]
      split at h
      · rename_i bb hb
        injection h with h
        rcases hE.2 t with h1 | ⟨h1, h2⟩
        · rw [hb] at h1; cases h1
        · rw [hb] at h2
          have hv : a.tmps.getD t Go.undef = .bool bb := by generalize a.tmps.getD t Go.undef = v at h2; cases h2; rfl
          have hy : yielded ops a.tmps j = some bb := by
            unfold yielded
            rw [ht]
            simp [tmp _ hv (by simp [Go.undef])]
          rw [hy, ← h]; cases bb <;> cases want <;> rfl
      · rename_i hb
        injection h with h; subst h
        rcases hE.2 t with h1 | ⟨h1, h2⟩
        · rw [hb] at h1; cases h1
        · rw [hb] at h2
          have hv : a.tmps.getD t Go.undef = .tuple #[] := by
            generalize a.tmps.getD t Go.undef = v at h2
            cases h2 with
            | @tup _ vs hl _ => simp at hl; rw [Array.eq_empty_of_size_eq_zero hl.symm]
          have hy : yielded ops a.tmps j = none := by
            unfold yielded
            rw [ht]
            rw [Array.getD_eq_getD_getElem?] at hv
            cases hq : a.tmps[t]? with
            | none => simp [hq]
            | some q => rw [hq] at hv; simp at hv; simp [hq, hv]
          rw [hy]; rfl
      · cases h
    · cases h

/-- Where the value goes. -/
def putE (en : Env) (dst : Option Nat) (x : AV) : Env := match dst with
  | some d => (d, x) :: en
  | none => en

theorem ER.putE {en : Env} {dst : Option Nat} (h : ER c en N a.tmps) (hd : ∀ d, dst = some d → d < N) {x : AV} {v : Value} (hv : VR c x v) : ER c (putE en dst x) N (a.put dst v).tmps := by
  cases dst with
  | none => exact h
  | some d => exact h.put (hd d rfl) hv

/-- Operations one behind the other. -/
def opsW (P : Program) (N : Nat) (rd : Option Nat) (ops : Array Oper) (mk : List Nat) : List Oper → Env → List AO → (Env → List AO → Prop) → Prop
  | [], en, st, K => K en st
  | o :: rest, en, st, K => (∀ d, o.dst = some d → d < N) ∧ match guardA ops en o with
    | some true => opC P N rd mk (dec P o) (preO (dec P o) en st).1 (preO (dec P o) en st).2 (fun x st' => opsW P N rd ops mk rest (putE en o.dst x) st' K)
    | some false => opsW P N rd ops mk rest (putE en o.dst (.tup [])) st K
    | none => False

theorem opsW_ok {ops : Array Oper} {Q : Exit → Act → World → Prop} {KK : Env → List AO → Prop} : ∀ (l : List Nat) (rest : List Oper) (en : Env) (st : List AO), l.map (ops[·]?) = rest.map some →
    opsW P N rd ops mk rest en st KK → ∀ F n a w ρ D, FR ρ rd F → WR ⟨w, ρ, D, st⟩ → ER ⟨w, ρ, D, st⟩ en N a.tmps → MR ρ mk a.defers →
    (∀ a' w' ρ' D' en' st', WR ⟨w', ρ', D', st'⟩ → ER ⟨w', ρ', D', st'⟩ en' N a'.tmps → MR ρ' mk a'.defers → Ext ⟨w, ρ, D, st⟩ ⟨w', ρ', D', st'⟩ → KK en' st' → Q .normal a' w') →
    wpOpsIn F n P ops Q l a w
  | [], rest, en, st, hl, h, F, n, a, w, ρ, D, hF, hW, hE, hM, hQ => by
    cases rest with
    | nil => exact hQ a w ρ D en st hW hE hM (.refl _) h
    | cons _ _ => simp at hl
  | i :: l, rest, en, st, hl, h, F, n, a, w, ρ, D, hF, hW, hE, hM, hQ => by
    cases rest with
    | nil => simp at hl
    | cons o rest =>
      simp only [List.map_cons, List.cons.injEq] at hl
      obtain ⟨hi, hl⟩ := hl
      obtain ⟨hdst, h⟩ := h
      simp only [wpOpsIn, hi]
      split at h
      · rename_i hg
        rw [if_pos (guardA_ok hE hg)]
        refine ops_pre (op := dec P o) (opC_ok h) F n a w ρ D _ _ hF hW hE hM (fun v w' ρ' D' x st' k1 k2 k3 k4 => ?_)
        refine opsW_ok l rest _ st' hl k4 F n _ w' ρ' D' (FR.ext k3 hF) k1 (ER.putE (hE.ext k3) hdst k2) ?_ (fun a' w'' ρ'' D'' en' st'' q1 q2 q3 q4 q5 => hQ a' w'' ρ'' D'' en' st'' q1 q2 q3 (k3.trans q4) q5)
        have hd : (a.put o.dst v).defers = a.defers := by unfold Act.put; split <;> rfl
        rw [hd]; exact hM.ext k3
      · rename_i hg
        rw [if_neg (by rw [guardA_ok hE hg]; simp)]
        refine ⟨fun f _ => hF.fn f, ?_⟩
        refine opsW_ok l rest _ st hl h F n _ w ρ D hF hW (ER.putE hE hdst .undef) ?_ hQ
        have hd : (a.put o.dst undef).defers = a.defers := by unfold Act.put; split <;> rfl
        rw [hd]; exact hM
      · exact h.elim

theorem aw_region {id : Nat} {ops : Array Oper} {Q : AQ} (h : opsW P N rd ops mk ops.toList en st (fun en' st' => Q .normal en' mk st')) : AW P N rd (.region id ops false) en mk st Q := by
  intro F n a w ρ D hF hW hE hM
  refine wpIn_region (opsW_ok (List.range ops.size) ops.toList en st ?_ h F n a w ρ D hF hW hE hM (fun a' w' ρ' D' en' st' k1 k2 k3 k4 k5 => ⟨.normal, en', mk, st', ρ', D', rfl, k1, k2, k3, k4, k5⟩))
  apply List.ext_getElem?; intro i
  simp only [List.getElem?_map]
  by_cases hi : i < ops.size
  · rw [List.getElem?_range hi, Array.getElem?_toList, Array.getElem?_eq_getElem hi]; simp [Array.getElem?_eq_getElem hi]
  · rw [List.getElem?_eq_none (by simp; omega), List.getElem?_eq_none (by simp; omega)]; rfl

end
end Go.AW

/-
  AW, part 15m: what an operation comes to, from more to less; by what it looks at alone.
-/
namespace Go.AW
open Go Go.RowKit
set_option linter.unusedVariables false
set_option linter.unusedSimpArgs false

section
variable {P : Program} {N : Nat} {rd : Option Nat} {o : Oper} {en en' : Env} {mk : List Nat} {st : List AO} {K : AV → List AO → Prop} {c : Cx} {a : Act}

set_option maxHeartbeats 1000000 in
theorem opC_mono {ao : AOp} {K' : AV → List AO → Prop} (h : opC P N rd mk ao en st K) (hk : ∀ x st, K x st → K' x st) : opC P N rd mk ao en st K' := by
  cases ao with
  | call f args => exact AFn.mono h hk
  | raw _ => exact OpS.mono h hk
  | len str x =>
    simp only [opC] at h ⊢
    split at h
    · exact fun hn => hk _ _ (h hn)
    · exact h
  | mksl e sz ps => exact ⟨h.1, hk _ _ h.2⟩
  | app e sz bytes x y =>
    simp only [opC] at h ⊢
    split at h
    · exact h
    · refine ⟨h.1, ?_⟩
      replace h := h.2
      split at h
      · split at h
        · exact ⟨h.1, hk _ _ h.2⟩
        · exact h
      · split at h
        · exact hk _ _ h
        · exact ⟨h.1, hk _ _ h.2⟩
      · split at h
        · exact ⟨h.1, hk _ _ h.2⟩
        · exact h
      · exact h
  | store n x y =>
    simp only [opC] at h ⊢
    split at h
    · split at h
      · exact ⟨h.1, hk _ _ h.2⟩
      · exact h
    · split at h
      · split at h
        · split at h
          · split at h
            · exact ⟨h.1, hk _ _ h.2⟩
            · exact h
          · exact h
        · exact h
      · exact h
    · exact h
  | box x => simp only [opC] at h ⊢; split at h <;> first | exact hk _ _ h | exact h
  | alloc cs => exact hk _ _ h
  | mkmap t => exact hk _ _ h
  | isnil neg x =>
    simp only [opC] at h ⊢
    split at h
    · exact hk _ _ h
    · exact fun b => hk _ _ (h b)
    · exact h
  | cap x =>
    simp only [opC] at h ⊢
    split at h
    · exact hk _ _ h
    · split at h
      · exact fun c h1 h2 => hk _ _ (h c h1 h2)
      · exact h
  | mupd tag x k v =>
    simp only [opC] at h ⊢
    split at h
    · split at h
      · split at h
        · exact hk _ _ h
        · exact ⟨h.1, hk _ _ h.2⟩
        · exact h
      · exact h
    · exact h
  | mentry tag z x k =>
    simp only [opC] at h ⊢
    split at h
    · split at h
      · split at h
        · exact fun e he => hk _ _ (h e he)
        · exact ⟨h.1, hk _ _ h.2⟩
        · exact h
      · exact h
    · exact h
  | estore x s v =>
    simp only [opC] at h ⊢
    split at h
    · split at h
      · split at h
        · exact hk _ _ h
        · exact h
      · exact h
    · exact h
  | mdel tag x k =>
    simp only [opC] at h ⊢
    split at h
    · split at h
      · split at h
        · exact hk _ _ h
        · exact hk _ _ h
        · exact h
      · exact h
    · exact h
  | range x =>
    simp only [opC] at h ⊢
    split at h
    · split at h
      · exact hk _ _ h
      · exact h
    · exact h
  | next x =>
    simp only [opC] at h ⊢
    split at h
    · split at h
      · split at h
        · exact ⟨h.1, fun q => hk _ _ (h.2.1 q), fun e he => hk _ _ (h.2.2 e he)⟩
        · exact h
      · exact h
    · exact h
  | clear e sz z x =>
    simp only [opC] at h ⊢
    split at h
    · split at h
      · exact ⟨h.1, hk _ _ h.2⟩
      · exact h
    · exact h
  | _ => simp only [opC] at h ⊢; split at h <;> first | exact hk _ _ h | exact h

/-- What an operation looks at. -/
def AOp.looks : AOp → List Operand
  | .mov x => [x]
  | .pick c a b => [c, a, b]
  | .build _ ps => ps.map (·.2.2)
  | .load _ _ x | .nilck x | .un _ x | .cvi _ x | .faddr _ x | .fld _ _ _ x | .ext x _ | .len _ x | .box x | .isnil _ x | .cap x | .lenM x | .range x | .next x | .entry x | .clear _ _ _ x => [x]
  | .bin _ _ x y | .iaddr _ x y | .iaddrA _ _ x y | .idxS x y | .store _ x y | .app _ _ _ x y | .appz _ _ _ _ x y => [x, y]
  | .mkfn _ fs cs => fs ++ cs
  | .slc _ x lo hi mx => x :: (lo.toList ++ hi.toList ++ mx.toList)
  | .slcS x lo hi => x :: (lo.toList ++ hi.toList)
  | .alloc _ | .mkmap _ | .raw _ => []
  | .mksl _ _ ps => ps
  | .call f args => f :: args
  | .mm _ xs => xs
  | .lookup _ _ x k _ | .mentry _ _ x k | .mdel _ x k => [x, k]
  | .mupd _ x k v => [x, k, v]
  | .estore x s v => [x, s, v]

def AOp.isRaw : AOp → Bool
  | .raw _ => true
  | _ => false

theorem opt_congr {x : Option Operand} (h : ∀ y ∈ x.toList, opA en y = opA en' y) : x.map (opA en) = x.map (opA en') := by
  cases x with
  | none => rfl
  | some y => simp [h y (by simp)]

set_option maxHeartbeats 1000000 in
theorem opC_congr {ao : AOp} (h : opC P N rd mk ao en st K) (hr : ao.isRaw = false) (hk : ∀ x ∈ ao.looks, opA en x = opA en' x) : opC P N rd mk ao en' st K := by
  cases ao with
  | raw _ => simp [AOp.isRaw] at hr
  | alloc cs => exact h
  | mkmap t => exact h
  | mksl e sz ps =>
    have hp : ∀ f : AV → AV, ps.map (fun y => f (opA en y)) = ps.map (fun y => f (opA en' y)) := fun f => List.map_congr_left (fun x hx => by rw [hk x hx])
    have e1 := hp id
    have e2 := hp AV.nrm
    simp only [id] at e1
    simp only [opC] at h ⊢
    rw [← e2]
    have e1' : ps.map (opA en) = ps.map (opA en') := e1
    rw [← e1']
    exact h
  | build zs ps =>
    have : ps.map (fun (o, s, x) => (o, s, opA en x)) = ps.map (fun (o, s, x) => (o, s, opA en' x)) := List.map_congr_left (fun p hp => by
      have := hk p.2.2 (by simp only [AOp.looks]; exact List.mem_map_of_mem hp)
      simp [this])
    simp only [opC, evQ, this] at h ⊢
    exact h
  | mkfn f fs cs =>
    have : (fs ++ cs).map (opA en) = (fs ++ cs).map (opA en') := List.map_congr_left hk
    simp only [opC, evQ, this] at h ⊢
    exact h
  | call f args =>
    have h0 := hk f (by simp [AOp.looks])
    have : args.map (opA en) = args.map (opA en') := List.map_congr_left (fun x hx => hk x (by simp [AOp.looks, hx]))
    simp only [opC, h0, this] at h ⊢
    exact h
  | mm mx xs =>
    have : xs.map (opA en) = xs.map (opA en') := List.map_congr_left hk
    simp only [opC, evQ, this] at h ⊢
    exact h
  | slc sz x lo hi mx =>
    have h0 := hk x (by simp [AOp.looks])
    have h1 := opt_congr (x := lo) (fun y hy => hk y (by simp only [AOp.looks, List.mem_cons, List.mem_append]; exact .inr (.inl (.inl hy))))
    have h2 := opt_congr (x := hi) (fun y hy => hk y (by simp only [AOp.looks, List.mem_cons, List.mem_append]; exact .inr (.inl (.inr hy))))
    have h3 := opt_congr (x := mx) (fun y hy => hk y (by simp only [AOp.looks, List.mem_cons, List.mem_append]; exact .inr (.inr hy)))
    simp only [opC, evQ, h0, h1, h2, h3] at h ⊢
    exact h
  | slcS x lo hi =>
    have h0 := hk x (by simp [AOp.looks])
    have h1 := opt_congr (x := lo) (fun y hy => hk y (by simp only [AOp.looks, List.mem_cons, List.mem_append]; exact .inr (.inl hy)))
    have h2 := opt_congr (x := hi) (fun y hy => hk y (by simp only [AOp.looks, List.mem_cons, List.mem_append]; exact .inr (.inr hy)))
    simp only [opC, evQ, h0, h1, h2] at h ⊢
    exact h
  | _ =>
    simp only [AOp.looks, List.mem_cons, List.not_mem_nil, or_false, forall_eq_or_imp, forall_eq] at hk
    simp only [opC, evQ, hk] at h ⊢ <;> exact h

/-- Of what kind is an operation? 0: it looks at its operands alone; 1: at the objects too; 2: it turns them. -/
def AOp.kind : AOp → Nat
  | .mov _ | .pick .. | .build .. | .nilck _ | .bin .. | .un .. | .cvi .. | .mkfn .. | .faddr .. | .fld .. | .iaddr .. | .iaddrA .. | .idxS .. | .slcS .. | .ext .. | .mm .. | .mksl .. => 0
  | .load .. | .slc .. | .lookup .. | .lenM _ | .entry _ | .len .. | .isnil .. | .cap _ => 1
  | _ => 2

/-- An operation that looks at its operands alone. -/
theorem opC_any_st {ao : AOp} {x : AV} (hk : ao.kind = 0) (h : opC P N rd mk ao en st (fun y s => y = x ∧ s = st)) (st' : List AO) : opC P N rd mk ao en st' (fun y s => y = x ∧ s = st') := by
  cases ao with
  | mksl e sz ps => exact ⟨h.1, h.2.1, rfl⟩
  | _ =>
    first
      | (simp [AOp.kind] at hk; done)
      | (simp only [opC, evQ] at h ⊢
         first
          | exact h
          | (split at h <;> first | exact h | exact h.elim))

end
end Go.AW

/-
  AW, part 15d: regions that draw their order.
-/
namespace Go.AW
open Go Go.RowKit
set_option linter.unusedVariables false
set_option linter.unusedSimpArgs false

def dstOk (N : Nat) (o : Oper) : Bool := match o.dst with
  | some d => decide (d < N)
  | none => true
theorem dstOk_lt {N : Nat} {o : Oper} (h : dstOk N o = true) : ∀ d, o.dst = some d → d < N := fun d hd => by simpa [dstOk, hd] using h

def compI (P : Program) (N : Nat) (ops : Array Oper) (o : Oper) : Option AI :=
  if dstOk N o then
    match o.guard with
    | none => some ⟨o.dst, none, dec P o⟩
    | some (j, w) => match (ops[j]?).bind (·.dst) with
      | some t => some ⟨o.dst, some (t, w), dec P o⟩
      | none => none
  else none

def compL (P : Program) (N : Nat) (ops : Array Oper) : List Oper → Option (List AI)
  | [] => some []
  | o :: r => match compI P N ops o, compL P N ops r with
    | some i, some l => some (i :: l)
    | _, _ => none

/-- Behind which operations does an operation stand surely? (bits) -/
def maskOf (acc : List Nat) (o : Oper) : Nat := o.after.toList.foldl (fun s e => if Region.binds .any e then s ||| 2 ^ e.on ||| acc.getD e.on 0 else s) 0
def befs : List Oper → List Nat → List Nat
  | [], acc => acc
  | o :: r, acc => befs r (acc ++ [maskOf acc o])

theorem maskOf_spec {acc : List Nat} {o : Oper} {j : Nat} (h : (maskOf acc o).testBit j = true) : ∃ e ∈ o.after, Region.binds .any e = true ∧ (j = e.on ∨ (acc.getD e.on 0).testBit j = true) := by
  have gen : ∀ (l : List Edge) (s : Nat), (l.foldl (fun s e => if Region.binds .any e then s ||| 2 ^ e.on ||| acc.getD e.on 0 else s) s).testBit j = true →
      s.testBit j = true ∨ ∃ e ∈ l, Region.binds .any e = true ∧ (j = e.on ∨ (acc.getD e.on 0).testBit j = true) := by
    intro l
    induction l with
    | nil => intro s h; exact .inl h
    | cons e l ih =>
      intro s h
      simp only [List.foldl_cons] at h
      rcases ih _ h with h1 | ⟨e', he', h1⟩
      · split at h1
        · rename_i hb
          simp only [Nat.testBit_or, Bool.or_eq_true] at h1
          rcases h1 with (h1 | h1) | h1
          · exact .inl h1
          · refine .inr ⟨e, by simp, hb, .inl ?_⟩
            rw [Nat.testBit_two_pow] at h1
            simp at h1; exact h1.symm
          · exact .inr ⟨e, by simp, hb, .inr h1⟩
        · exact .inl h1
      · exact .inr ⟨e', by simp [he'], h1⟩
  rcases gen _ 0 h with h1 | ⟨e, he, h1⟩
  · simp at h1
  · exact ⟨e, by simpa using he, h1⟩

theorem befs_old : ∀ (l : List Oper) (acc : List Nat) (k : Nat), k < acc.length → (befs l acc).getD k 0 = acc.getD k 0
  | [], acc, k, h => rfl
  | o :: r, acc, k, h => by
    simp only [befs]
    rw [befs_old r _ k (by simp; omega)]
    simp [List.getD_eq_getElem?_getD, List.getElem?_append_left h]

theorem befs_spec : ∀ (l : List Oper) (acc : List Nat) (i : Nat) (o : Oper), l[i]? = some o → ∀ j, ((befs l acc).getD (acc.length + i) 0).testBit j = true →
    ∃ e ∈ o.after, Region.binds .any e = true ∧ (j = e.on ∨ ((befs l acc).getD e.on 0).testBit j = true)
  | [], acc, i, o, hi, j, h => by simp at hi
  | o :: r, acc, 0, o', hi, j, h => by
    simp at hi; subst hi
    simp only [befs, Nat.add_zero] at h ⊢
    rw [befs_old r _ _ (by simp)] at h
    have h' : (maskOf acc o).testBit j = true := by simpa [List.getD_eq_getElem?_getD] using h
    obtain ⟨e, he, hb, h1⟩ := maskOf_spec h'
    refine ⟨e, he, hb, h1.imp id (fun h2 => ?_)⟩
    have hlt : e.on < acc.length := by
      rcases Nat.lt_or_ge e.on acc.length with h3 | h3
      · exact h3
      · simp [List.getD_eq_getElem?_getD, List.getElem?_eq_none h3] at h2
    rw [befs_old r _ _ (by simp; omega)]
    simpa [List.getD_eq_getElem?_getD, List.getElem?_append_left hlt] using h2
  | o :: r, acc, i + 1, o', hi, j, h => by
    simp at hi
    have := befs_spec r (acc ++ [maskOf acc o]) i o' hi j (by simpa [befs, Nat.add_assoc, Nat.add_comm 1 i] using h)
    simpa [befs] using this

theorem opT_mem {l : List Operand} {t : Nat} (h : Operand.tmp t ∈ l) : t ∈ opT l := by
  induction l with
  | nil => simp at h
  | cons x r ih =>
    rcases List.mem_cons.1 h with h1 | h1
    · subst h1; simp [opT]
    · have := ih h1
      cases x <;> simp [opT, this]
def AI.looks (i : AI) : List Nat := (match i.g with | some (t, _) => [t] | none => []) ++ opT i.op.looks

def dstL (l : List DI) (j : Nat) : Option Nat := (l[j]?).bind (·.i.dst)
def effN (l : List DI) (p : Nat) : Nat := (l.take p).countP (fun d => d.k == 2)

def effL (l : List DI) (j : Nat) : Bool := match l[j]? with
  | some d => d.k == 2
  | none => false

/-- What is asked of a region that draws its order: its operations' values hang on no order. -/
structure DrawOk (P : Program) (N : Nat) (ops : Array Oper) (l : List DI) (B : List Nat) : Prop where
  len : l.length = ops.size
  comp : ∀ (i : Nat) o d, ops[i]? = some o → l[i]? = some d → compI P N ops o = some d.i
  edge : ∀ (i : Nat) o e, ops[i]? = some o → e ∈ o.after → Region.binds .any e = true → e.on < i
  bef : ∀ (i : Nat) o, ops[i]? = some o → ∀ j, (B.getD i 0).testBit j = true → ∃ e ∈ o.after, Region.binds .any e = true ∧ (j = e.on ∨ (B.getD e.on 0).testBit j = true)
  raw : ∀ (i : Nat) d, l[i]? = some d → d.i.op.isRaw = false
  kind0 : ∀ (i : Nat) d, l[i]? = some d → d.k = 0 → d.i.op.kind = 0
  dst : ∀ i j t, dstL l i = some t → dstL l j = some t → i = j
  look : ∀ (i j : Nat) d t, l[i]? = some d → t ∈ d.i.looks → dstL l j = some t → (j < i ∧ (B.getD i 0).testBit j = true) ∨ (i < j ∧ (B.getD j 0).testBit i = true) ∨ i = j
  eff : ∀ (i j : Nat) d d', i < j → l[i]? = some d → l[j]? = some d' → d.k = 2 → d'.k = 2 → (B.getD j 0).testBit i = true
  back : ∀ (i : Nat) d, l[i]? = some d → d.k ≠ 0 → d.k ≠ 2 → effN l i ≤ d.back + (List.range i).countP (fun j => effL l j && (B.getD i 0).testBit j)
  fwd : ∀ (i : Nat) d, l[i]? = some d → d.k ≠ 0 → d.k ≠ 2 → effN l l.length ≤ effN l i + d.fwd + (List.range l.length).countP (fun j => effL l j && (B.getD j 0).testBit i)

/-- Is an operation wanted? -/
def guardV (g : Option (Nat × Bool)) (en : Env) : Option Bool := match g with
  | none => some true
  | some (t, w) => match en.get t with
    | .sc (.bool b) => some (b == w)
    | .tup [] => some false
    | _ => none

section
variable (P : Program) (N : Nat) (rd : Option Nat)

/-- What a region that draws its order comes to: reckoned in the text's order; what looks at the objects must yield the same at all moments at which it may come. -/
def drawC (mk : List Nat) : List DI → Env → List AO → List (List AO) → List (Nat × (List AO → Prop)) → (Env → List AO → Prop) → Prop
  | [], en, st, _, _, K => K en st
  | d :: rest, en, st, hist, pend, K => match guardV d.i.g en with
    | none => False
    | some false => match d.k with
      | 2 => (∀ p ∈ pend, 0 < p.1 → p.2 st) ∧ drawC mk rest (putE en d.i.dst (.tup [])) st (st :: hist) (pend.map fun p => (p.1 - 1, p.2)) K
      | _ => drawC mk rest (putE en d.i.dst (.tup [])) st hist pend K
    | some true => match d.k with
      | 2 => ∃ x st', opC P N rd mk d.i.op en st (fun y s => y = x ∧ s = st') ∧ (∀ p ∈ pend, 0 < p.1 → p.2 st') ∧ drawC mk rest (putE en d.i.dst x) st' (st :: hist) (pend.map fun p => (p.1 - 1, p.2)) K
      | 0 => ∃ x, opC P N rd mk d.i.op en st (fun y s => y = x ∧ s = st) ∧ drawC mk rest (putE en d.i.dst x) st hist pend K
      | _ => ∃ x, opC P N rd mk d.i.op en st (fun y s => y = x ∧ s = st) ∧ (∀ s ∈ hist.take d.back, opC P N rd mk d.i.op en s (fun y s' => y = x ∧ s' = s)) ∧
          drawC mk rest (putE en d.i.dst x) st hist (if d.fwd = 0 then pend else (d.fwd, fun s => opC P N rd mk d.i.op en s (fun y s' => y = x ∧ s' = s)) :: pend) K
end

def envAt : List DI → List AV → Env → Nat → Env
  | d :: l, x :: X, en, p + 1 => envAt l X (putE en d.i.dst x) p
  | _, _, en, _ => en

section
variable {P : Program} {N : Nat} {rd : Option Nat} {en : Env} {mk : List Nat} {st : List AO}

/-- A step of the plan. -/
def StepOK (P : Program) (N : Nat) (rd : Option Nat) (mk : List Nat) (d : DI) (E : Env) (x : AV) (all : List (List AO)) (q0 : Nat) : Prop :=
  ∃ g, guardV d.i.g E = some g ∧ (g = false → x = .tup [] ∧ (d.k = 2 → ∃ s, all[q0]? = some s ∧ all[q0 + 1]? = some s)) ∧
    (g = true → (d.k = 2 → ∃ s s', all[q0]? = some s ∧ all[q0 + 1]? = some s' ∧ opC P N rd mk d.i.op E s (fun y z => y = x ∧ z = s')) ∧
      (d.k ≠ 2 → ∀ (q : Nat) s, all[q]? = some s → q0 ≤ q + d.back → q ≤ q0 + d.fwd → (d.k = 0 → q = q0) → opC P N rd mk d.i.op E s (fun y z => y = x ∧ z = s)))

theorem effN_cons (d : DI) (l : List DI) (p : Nat) : effN (d :: l) (p + 1) = (if d.k = 2 then 1 else 0) + effN l p := by
  simp only [effN, List.take_succ_cons, List.countP_cons, beq_iff_eq]
  split <;> omega
theorem effN_zero (l : List DI) : effN l 0 = 0 := by simp [effN]

theorem drawC_plan : ∀ {l : List DI} {en : Env} {st : List AO} {hist : List (List AO)} {pend : List (Nat × (List AO → Prop))} {K : Env → List AO → Prop}, drawC P N rd mk l en st hist pend K →
    ∃ (X : List AV) (T : List (List AO)), X.length = l.length ∧ T.length = effN l l.length ∧
      (∀ (p : Nat) d x, l[p]? = some d → X[p]? = some x → StepOK P N rd mk d (envAt l X en p) x (hist.reverse ++ st :: T) (hist.length + effN l p)) ∧
      (∀ pφ ∈ pend, ∀ (q : Nat) s, hist.length < q → q ≤ hist.length + pφ.1 → (hist.reverse ++ st :: T)[q]? = some s → pφ.2 s) ∧
      ∃ s, (hist.reverse ++ st :: T)[hist.length + effN l l.length]? = some s ∧ K (envAt l X en l.length) s
  | [], en, st, hist, pend, K, h => by
    refine ⟨[], [], rfl, by simp [effN], fun p d x hp => by simp at hp, fun pφ _ q s h1 _ h3 => ?_, st, ?_, h⟩
    · have := (List.getElem?_eq_some_iff.1 h3).1
      simp at this; omega
    · simp [effN]
  | d :: rest, en, st, hist, pend, K, h => by
    -- a step that turns the objects
    have two : ∀ x st', d.k = 2 → (∀ p ∈ pend, 0 < p.1 → p.2 st') → drawC P N rd mk rest (putE en d.i.dst x) st' (st :: hist) (pend.map fun p => (p.1 - 1, p.2)) K →
        (∀ T', StepOK P N rd mk d en x (hist.reverse ++ st :: st' :: T') hist.length) →
        ∃ (X : List AV) (T : List (List AO)), X.length = (d :: rest).length ∧ T.length = effN (d :: rest) (d :: rest).length ∧
          (∀ (p : Nat) d' x, (d :: rest)[p]? = some d' → X[p]? = some x → StepOK P N rd mk d' (envAt (d :: rest) X en p) x (hist.reverse ++ st :: T) (hist.length + effN (d :: rest) p)) ∧
          (∀ pφ ∈ pend, ∀ (q : Nat) s, hist.length < q → q ≤ hist.length + pφ.1 → (hist.reverse ++ st :: T)[q]? = some s → pφ.2 s) ∧
          ∃ s, (hist.reverse ++ st :: T)[hist.length + effN (d :: rest) (d :: rest).length]? = some s ∧ K (envAt (d :: rest) X en (d :: rest).length) s := by
      intro x st' hk hp hd hs
      obtain ⟨X, T, h1, h2, h3, h4, s, h5, h6⟩ := drawC_plan hd
      have eA : (st :: hist).reverse ++ st' :: T = hist.reverse ++ st :: st' :: T := by simp
      rw [eA] at h3 h4 h5
      refine ⟨x :: X, st' :: T, by simp [h1], by simp only [List.length_cons, effN_cons, hk, if_true, h2]; omega, fun p d' x' hp' hx' => ?_, fun pφ hpφ q s hq1 hq2 hq3 => ?_, s, ?_, h6⟩
      · cases p with
        | zero =>
          simp at hp' hx'; subst hp'; subst hx'
          rw [effN_zero]; exact hs T
        | succ p =>
          have := h3 p d' x' (by simpa using hp') (by simpa using hx')
          rw [effN_cons, if_pos hk, ← Nat.add_assoc]
          simpa [envAt] using this
      · by_cases hq : q = hist.length + 1
        · subst hq
          rw [List.getElem?_append_right (by simp)] at hq3
          simp at hq3; subst hq3
          exact hp pφ hpφ (by omega)
        · exact h4 (pφ.1 - 1, pφ.2) (List.mem_map.2 ⟨pφ, hpφ, rfl⟩) q s (by simp; omega) (by simp; omega) hq3
      · simp only [List.length_cons] at h5 ⊢
        rw [effN_cons, if_pos hk, ← Nat.add_assoc]; exact h5
    -- a step that leaves them alone
    have one : ∀ x pend', d.k ≠ 2 → (∀ p ∈ pend, p ∈ pend') → drawC P N rd mk rest (putE en d.i.dst x) st hist pend' K →
        (∀ T, (∀ pφ ∈ pend', ∀ (q : Nat) s, hist.length < q → q ≤ hist.length + pφ.1 → (hist.reverse ++ st :: T)[q]? = some s → pφ.2 s) → StepOK P N rd mk d en x (hist.reverse ++ st :: T) hist.length) →
        ∃ (X : List AV) (T : List (List AO)), X.length = (d :: rest).length ∧ T.length = effN (d :: rest) (d :: rest).length ∧
          (∀ (p : Nat) d' x, (d :: rest)[p]? = some d' → X[p]? = some x → StepOK P N rd mk d' (envAt (d :: rest) X en p) x (hist.reverse ++ st :: T) (hist.length + effN (d :: rest) p)) ∧
          (∀ pφ ∈ pend, ∀ (q : Nat) s, hist.length < q → q ≤ hist.length + pφ.1 → (hist.reverse ++ st :: T)[q]? = some s → pφ.2 s) ∧
          ∃ s, (hist.reverse ++ st :: T)[hist.length + effN (d :: rest) (d :: rest).length]? = some s ∧ K (envAt (d :: rest) X en (d :: rest).length) s := by
      intro x pend' hk hp hd hs
      obtain ⟨X, T, h1, h2, h3, h4, s, h5, h6⟩ := drawC_plan hd
      refine ⟨x :: X, T, by simp [h1], by simp only [List.length_cons, effN_cons, hk, if_false, h2]; omega, fun p d' x' hp' hx' => ?_, fun pφ hpφ => h4 pφ (hp pφ hpφ), s, ?_, h6⟩
      · cases p with
        | zero =>
          simp at hp' hx'; subst hp'; subst hx'
          rw [effN_zero]; exact hs T h4
        | succ p =>
          have := h3 p d' x' (by simpa using hp') (by simpa using hx')
          rw [effN_cons, if_neg hk, Nat.zero_add]
          simpa [envAt] using this
      · simp only [List.length_cons] at h5 ⊢
        rw [effN_cons, if_neg hk, Nat.zero_add]; exact h5
    have here : ∀ T : List (List AO), (hist.reverse ++ st :: T)[hist.length]? = some st := fun T => by rw [List.getElem?_append_right (by simp)]; simp
    simp only [drawC] at h
    split at h
    · exact h.elim
    · rename_i hg
      split at h
      · rename_i hk
        exact two (.tup []) st hk h.1 h.2 (fun T' => ⟨false, hg, fun _ => ⟨rfl, fun _ => ⟨st, here _, by rw [List.getElem?_append_right (by simp)]; simp⟩⟩, fun h => by cases h⟩)
      · rename_i hk
        exact one (.tup []) pend (fun e => hk e) (fun _ h => h) h (fun T _ => ⟨false, hg, fun _ => ⟨rfl, fun e => absurd e (fun e => hk e)⟩, fun h => by cases h⟩)
    · rename_i hg
      split at h
      · rename_i hk
        obtain ⟨x, st', h1, h2, h3⟩ := h
        exact two x st' hk h2 h3 (fun T' => ⟨true, hg, (fun h => by cases h), fun _ => ⟨fun _ => ⟨st, st', here _, by rw [List.getElem?_append_right (by simp)]; simp, h1⟩, fun e => absurd hk e⟩⟩)
      · rename_i hk
        obtain ⟨x, h1, h2⟩ := h
        exact one x pend (by omega) (fun _ h => h) h2 (fun T _ => ⟨true, hg, (fun h => by cases h), fun _ => ⟨fun e => by omega, fun _ q s hq _ _ hq0 => by
          have := hq0 hk; subst this
          rw [here T] at hq; injection hq with hq; subst hq
          exact h1⟩⟩)
      · rename_i hk2 hk0
        obtain ⟨x, h1, h2, h3⟩ := h
        refine one x _ (fun e => hk2 e) (fun p hp => ?_) h3 (fun T hT => ⟨true, hg, (fun h => by cases h), fun _ => ⟨fun e => absurd e (fun e => hk2 e), fun _ q s hq hb hf _ => ?_⟩⟩)
        · split
          · exact hp
          · exact List.mem_cons_of_mem _ hp
        · rcases Nat.lt_trichotomy q hist.length with hlt | heq | hgt
          · refine h2 s ?_
            rw [List.getElem?_append_left (by simpa using hlt), List.getElem?_reverse hlt] at hq
            have hm : hist.length - 1 - q < d.back := by omega
            exact List.mem_of_getElem? (i := hist.length - 1 - q) (by rw [List.getElem?_take, if_pos hm]; exact hq)
          · subst heq
            rw [here T] at hq; injection hq with hq; subst hq
            exact h1
          · have hf0 : d.fwd ≠ 0 := by omega
            rw [if_neg hf0] at hT
            exact hT _ (List.mem_cons_self ..) q s hgt hf hq

theorem envAt_none {t : Nat} : ∀ {l : List DI} {X : List AV} {en : Env} {p : Nat}, (∀ j, j < p → dstL l j ≠ some t) → (envAt l X en p).get t = en.get t
  | [], X, en, p, h => by cases p <;> rfl
  | d :: l, [], en, p, h => by cases p <;> rfl
  | d :: l, x :: X, en, 0, h => rfl
  | d :: l, x :: X, en, p + 1, h => by
    simp only [envAt]
    rw [envAt_none (fun j hj => by have := h (j + 1) (by omega); simpa [dstL] using this)]
    have h0 := h 0 (by omega)
    simp only [dstL, List.getElem?_cons_zero, Option.bind_some] at h0
    unfold putE
    split
    · rename_i t' ht'
      rw [ht'] at h0
      simp only [Env.get]
      rw [if_neg (fun e => h0 (by rw [e]))]
    · rfl

theorem envAt_some {t j : Nat} {x : AV} : ∀ {l : List DI} {X : List AV} {en : Env} {p : Nat}, X.length = l.length → j < p → dstL l j = some t → (∀ j', dstL l j' = some t → j' = j) → X[j]? = some x → (envAt l X en p).get t = x
  | [], X, en, p, hl, hj, hd, hu, hx => by simp [dstL] at hd
  | d :: l, [], en, p, hl, hj, hd, hu, hx => by simp at hl
  | d :: l, y :: X, en, 0, hl, hj, hd, hu, hx => by omega
  | d :: l, y :: X, en, p + 1, hl, hj, hd, hu, hx => by
    simp only [envAt]
    cases j with
    | zero =>
      rw [envAt_none (fun j' hj' e => by have := hu (j' + 1) (by simpa [dstL] using e); omega)]
      simp only [dstL, List.getElem?_cons_zero, Option.bind_some] at hd
      simp at hx
      unfold putE
      rw [hd]
      simp [Env.get, hx]
    | succ j => exact envAt_some (j := j) (by simpa using hl) (by omega) (by simpa [dstL] using hd) (fun j' hj' => by have := hu (j' + 1) (by simpa [dstL] using hj'); omega) (by simpa using hx)

end
end Go.AW

/-
  AW, part 15e: regions that draw their order: what is reckoned in the text's order holds in all.
-/
namespace Go.AW
open Go Go.RowKit
set_option linter.unusedVariables false
set_option linter.unusedSimpArgs false

section
variable {P : Program} {N : Nat} {rd : Option Nat} {en : Env} {mk : List Nat} {st : List AO}

theorem cnt_update {n i : Nat} {f f' : Nat → Bool} {b : Bool} (hi : i < n) (h0 : f i = false) (h1 : f' i = b) (h : ∀ j, j ≠ i → f' j = f j) : (List.range n).countP f' = (List.range n).countP f + (if b then 1 else 0) := by
  induction n with
  | zero => omega
  | succ n ih =>
    rw [List.range_succ, List.countP_append, List.countP_append]
    by_cases hin : i = n
    · subst hin
      have : (List.range i).countP f' = (List.range i).countP f := List.countP_congr (fun j hj => by
        have := List.mem_range.1 hj
        rw [h j (by omega)])
      rw [this]
      simp [h0, h1]
    · rw [ih (by omega), List.countP_singleton, List.countP_singleton, h n (Ne.symm hin)]
      omega

theorem cnt_le {n m : Nat} {f g : Nat → Bool} (hnm : n ≤ m) (h : ∀ j, j < n → f j = true → g j = true) : (List.range n).countP f ≤ (List.range m).countP g := by
  induction m with
  | zero =>
    have : n = 0 := by omega
    subst this; simp
  | succ m ih =>
    by_cases hn : n = m + 1
    · subst hn
      exact List.countP_mono_left (fun j hj hf => h j (List.mem_range.1 hj) hf)
    · rw [List.range_succ, List.countP_append]
      have := ih (by omega)
      omega

theorem cnt_below {n i : Nat} {f g : Nat → Bool} (h : ∀ j, j < n → f j = true → j < i ∧ g j = true) : (List.range n).countP f ≤ (List.range i).countP g := by
  induction n with
  | zero => simp
  | succ n ih =>
    rw [List.range_succ, List.countP_append, List.countP_singleton]
    by_cases hf : f n = true
    · have hni := (h n (by omega) hf).1
      have hgn := (h n (by omega) hf).2
      have h1 : (List.range n).countP f ≤ (List.range n).countP g := cnt_le (Nat.le_refl _) (fun j hj hfj => (h j (by omega) hfj).2)
      have h2 : (List.range (n + 1)).countP g ≤ (List.range i).countP g := cnt_le hni (fun _ _ h => h)
      rw [List.range_succ, List.countP_append, List.countP_singleton, hgn] at h2
      rw [hf]; simp at h2 ⊢; omega
    · have := ih (fun j hj => h j (by omega))
      simp [hf]; exact this

theorem cnt_disj {n : Nat} {f g e : Nat → Bool} (h1 : ∀ j, f j = true → e j = true) (h2 : ∀ j, g j = true → e j = true) (h : ∀ j, j < n → f j = true → g j = true → False) : (List.range n).countP f + (List.range n).countP g ≤ (List.range n).countP e := by
  induction n with
  | zero => simp
  | succ n ih =>
    simp only [List.range_succ, List.countP_append, List.countP_singleton]
    have := ih (fun j hj => h j (by omega))
    have hn := h n (by omega)
    have e1 := h1 n
    have e2 := h2 n
    cases hf : f n <;> cases hg : g n <;> simp [hf, hg] at hn e1 e2 ⊢ <;> (try rw [e1]) <;> (try rw [e2]) <;> (try simp) <;> omega

theorem effN_cnt {l : List DI} : ∀ {p : Nat}, p ≤ l.length → effN l p = (List.range p).countP (effL l) := by
  intro p
  induction p with
  | zero => intro _; simp [effN]
  | succ p ih =>
    intro hp
    rw [List.range_succ, List.countP_append, List.countP_singleton, ← ih (by omega)]
    have hlt : p < l.length := by omega
    unfold effN effL
    rw [List.take_add_one, List.getElem?_eq_getElem hlt]
    simp only [Option.toList_some, List.countP_append, List.countP_singleton]

theorem get_looks {ts : List Nat} {f : Nat → AV} {t : Nat} : Env.get (ts.map fun t => (t, f t)) t = if t ∈ ts then f t else .any := by
  induction ts with
  | nil => simp [Env.get]
  | cons u ts ih =>
    simp only [List.map_cons, Env.get, ih, List.mem_cons]
    by_cases h : t = u
    · subst h; simp
    · simp [h]

theorem compI_spec {ops : Array Oper} {o : Oper} {ai : AI} (h : compI P N ops o = some ai) : (∀ d, o.dst = some d → d < N) ∧ ai.dst = o.dst ∧ ai.op = dec P o ∧ ∀ E, guardA ops E o = guardV ai.g E := by
  unfold compI at h
  split at h
  case isFalse => cases h
  rename_i hd
  refine ⟨dstOk_lt hd, ?_⟩
  split at h
  · rename_i hg
    injection h with h; subst h
    exact ⟨rfl, rfl, fun E => by simp [guardA, guardV, hg]⟩
  · rename_i j w hg
    split at h
    · rename_i t ht
      injection h with h; subst h
      exact ⟨rfl, rfl, fun E => by
        simp only [guardA, guardV, hg, ht] <;> (cases E.get t with
        | sc v => cases v <;> rfl
        | tup l => cases l <;> rfl
        | _ => rfl)⟩
    · cases h

/-- How far a region has come, in whatever order. -/
structure DInv (mk : List Nat) (l : List DI) (B : List Nat) (X : List AV) (all : List (List AO)) (N : Nat) (en : Env) (c0 : Cx) (listed : Array Bool) (a : Act) (w : World) : Prop where
  size : listed.size = l.length
  closed : ∀ i j, listed.getD i false = true → (B.getD i 0).testBit j = true → listed.getD j false = true
  st : ∃ ρ D s, all[(List.range l.length).countP (fun j => effL l j && listed.getD j false)]? = some s ∧ WR ⟨w, ρ, D, s⟩ ∧ MR ρ mk a.defers ∧ Ext c0 ⟨w, ρ, D, s⟩ ∧ a.tmps.size = N ∧
    ∀ t, (∀ (j : Nat) x, listed.getD j false = true → dstL l j = some t → X[j]? = some x → x = .any ∨ (t < N ∧ VR ⟨w, ρ, D, s⟩ x (a.tmps.getD t undef))) ∧
      ((∀ j, listed.getD j false = true → dstL l j ≠ some t) → en.get t = .any ∨ (t < N ∧ VR ⟨w, ρ, D, s⟩ (en.get t) (a.tmps.getD t undef)))

theorem getD_false {listed : Array Bool} {j : Nat} (h : listed.getD j true = false) : j < listed.size ∧ listed.getD j false = false := by
  rw [Array.getD_eq_getD_getElem?] at h ⊢
  cases hj : listed[j]? with
  | none => rw [hj] at h; simp at h
  | some b => rw [hj] at h; simp at h ⊢; exact ⟨(Array.getElem?_eq_some_iff.1 hj).1, h⟩

theorem getD_set_same {listed : Array Bool} {i : Nat} (h : i < listed.size) : (listed.setIfInBounds i true).getD i false = true := by simp [h]

theorem put_get {a : Act} {dst : Option Nat} {v : Value} {t : Nat} (hN : a.tmps.size = N) : (∀ d, dst = some d → d < N) → (a.put dst v).tmps.size = N ∧ (dst = some t → (a.put dst v).tmps.getD t undef = v) ∧ (dst ≠ some t → (a.put dst v).tmps.getD t undef = a.tmps.getD t undef) := by
  intro hd
  cases dst with
  | none => exact ⟨hN, (fun h => by cases h), fun _ => rfl⟩
  | some d =>
    have := hd d rfl
    refine ⟨by simp [Act.put, hN], fun h => ?_, fun h => ?_⟩
    · injection h with h; subst h
      simp [Act.put, Array.getD_eq_getD_getElem?, hN, this]
    · have hne : d ≠ t := fun e => h (by rw [e])
      simp [Act.put, Array.getD_eq_getD_getElem?, Array.getElem?_setIfInBounds_ne hne]

theorem put_defers' {a : Act} {dst : Option Nat} {v : Value} : (a.put dst v).defers = a.defers := by unfold Act.put; split <;> rfl

/-- One operation more. -/
theorem DInv.step {l : List DI} {B : List Nat} {X : List AV} {all : List (List AO)} {c0 : Cx} {listed : Array Bool} {a : Act} {w w' : World} {i : Nat} {d : DI} {x : AV} {v : Value} {s' : List AO} {ρ ρ' : List Value} {D D' : Nat → Nat → Prop} {s : List AO}
    (hI : DInv mk l B X all N en c0 listed a w) (hd : l[i]? = some d) (hX : X[i]? = some x) (hu : ∀ j t, dstL l i = some t → dstL l j = some t → i = j) (hun : listed.getD i true = false)
    (hpre : ∀ j, (B.getD i 0).testBit j = true → listed.getD j false = true) (hdst : ∀ t, d.i.dst = some t → t < N)
    (hall : all[(List.range l.length).countP (fun j => effL l j && listed.getD j false) + (if effL l i then 1 else 0)]? = some s')
    (hs : ∀ t, (∀ (j : Nat) x, listed.getD j false = true → dstL l j = some t → X[j]? = some x → x = .any ∨ (t < N ∧ VR ⟨w, ρ, D, s⟩ x (a.tmps.getD t undef))) ∧
      ((∀ j, listed.getD j false = true → dstL l j ≠ some t) → en.get t = .any ∨ (t < N ∧ VR ⟨w, ρ, D, s⟩ (en.get t) (a.tmps.getD t undef))))
    (hN : a.tmps.size = N) (hM : MR ρ mk a.defers) (hE0 : Ext c0 ⟨w, ρ, D, s⟩)
    (hW : WR ⟨w', ρ', D', s'⟩) (hv : x = .any ∨ VR ⟨w', ρ', D', s'⟩ x v) (hE : Ext ⟨w, ρ, D, s⟩ ⟨w', ρ', D', s'⟩) :
    DInv mk l B X all N en c0 (listed.setIfInBounds i true) (a.put d.i.dst v) w' := by
  obtain ⟨hil, hif⟩ := getD_false hun
  have hsame := getD_set_same hil
  have hne : ∀ j, j ≠ i → (listed.setIfInBounds i true).getD j false = listed.getD j false := fun j hj => getD_set_ne false (Ne.symm hj)
  obtain ⟨p1, _⟩ := put_get (a := a) (dst := d.i.dst) (v := v) (t := 0) hN hdst
  refine ⟨by simp [hI.size], fun k j hk hb => ?_, ρ', D', s', ?_, hW, by rw [put_defers']; exact hM.ext hE, hE0.trans hE, p1, fun t => ?_⟩
  · have hjj : listed.getD j false = true := by
      by_cases hki : k = i
      · subst hki; exact hpre j hb
      · rw [hne k hki] at hk; exact hI.closed k j hk hb
    exact getD_set_true hjj
  · rw [cnt_update (i := i) (f := fun j => effL l j && listed.getD j false) (b := effL l i) (by rw [← hI.size]; exact hil) (by simp only [hif, Bool.and_false]) (by simp only [hsame, Bool.and_true]) (fun j hj => by simp only [hne j hj])]
    exact hall
  · obtain ⟨_, p2, p3⟩ := put_get (a := a) (dst := d.i.dst) (v := v) (t := t) hN hdst
    have hdl : dstL l i = d.i.dst := by simp [dstL, hd]
    by_cases hdt : d.i.dst = some t
    · refine ⟨fun j y hj hjd hy => ?_, fun h => absurd (hdl.trans hdt) (h i hsame)⟩
      have hij : i = j := hu j t (hdl.trans hdt) hjd
      subst hij
      rw [hX] at hy; injection hy with hy; subst hy
      rw [p2 hdt]
      exact hv.imp id (fun h => ⟨hdst t hdt, h⟩)
    · rw [p3 hdt]
      refine ⟨fun j y hj hjd hy => ?_, fun h => ?_⟩
      · have hji : j ≠ i := by rintro rfl; rw [hdl] at hjd; exact hdt hjd
        rw [hne j hji] at hj
        exact ((hs t).1 j y hj hjd hy).imp id (fun ⟨h1, h2⟩ => ⟨h1, h2.mono hE⟩)
      · exact ((hs t).2 (fun j hj => h j (getD_set_true hj))).imp id (fun ⟨h1, h2⟩ => ⟨h1, h2.mono hE⟩)

theorem any_run {ops : Array Oper} {l : List DI} {B : List Nat} (hok : DrawOk P N ops l B) {X : List AV} {T : List (List AO)} (hXl : X.length = l.length) (hTl : T.length = effN l l.length)
    (hstep : ∀ (p : Nat) d x, l[p]? = some d → X[p]? = some x → StepOK P N rd mk d (envAt l X en p) x (st :: T) (effN l p)) {F : Fence} {n : Nat} {c0 : Cx} (hF : FR c0.ρ rd F) {QQ : Exit → Act → World → Prop}
    (hend : ∀ a w, DInv mk l B X (st :: T) N en c0 (Array.replicate ops.size true) a w → QQ .normal a w) :
    ∀ (fuel : Nat) (listed : Array Bool) (a : Act) (w : World), DInv mk l B X (st :: T) N en c0 listed a w → (List.range l.length).countP (fun j => !listed.getD j true) ≤ fuel →
      wpAnyIn F n P .any ops QQ fuel listed a w := by
  have full : ∀ (listed : Array Bool) a w, DInv mk l B X (st :: T) N en c0 listed a w → Region.ready .any ops listed = [] → QQ .normal a w := by
    intro listed a w hI hr
    have hall : ∀ i, i < l.length → listed.getD i true = true := by
      intro i
      induction i using Nat.strongRecOn with
      | _ i ih =>
        intro hi
        cases hb : listed.getD i true with
        | true => rfl
        | false =>
          exfalso
          have hio : i < ops.size := by rw [← hok.len]; exact hi
          have : i ∈ Region.ready .any ops listed := by
            rw [mem_ready]
            refine ⟨hb, ops[i], Array.getElem?_eq_getElem hio, fun e he hbd => ?_⟩
            have hlt := hok.edge i _ e (Array.getElem?_eq_getElem hio) he hbd
            have h1 := ih e.on hlt (by omega)
            have hsz : e.on < listed.size := by rw [hI.size]; omega
            simp [Array.getD_eq_getD_getElem?, Array.getElem?_eq_getElem hsz] at h1 ⊢
            exact h1
          rw [hr] at this; cases this
    have : listed = Array.replicate ops.size true := by
      apply Array.ext
      · simp [hI.size, hok.len]
      · intro i h1 h2
        have := hall i (by rw [← hI.size]; exact h1)
        simp [Array.getD_eq_getD_getElem?, Array.getElem?_eq_getElem h1] at this ⊢
        exact this
    rw [this] at hI
    exact hend a w hI
  intro fuel
  induction fuel with
  | zero =>
    intro listed a w hI hf
    have hr : Region.ready .any ops listed = [] := by
      apply List.eq_nil_iff_forall_not_mem.2
      intro i hi
      obtain ⟨h0, o, ho, _⟩ := mem_ready.1 hi
      have hil : i < l.length := by rw [hok.len]; exact (Array.getElem?_eq_some_iff.1 ho).1
      have h0' : (List.range l.length).countP (fun j => !listed.getD j true) = 0 := by omega
      rw [List.countP_eq_zero] at h0'
      exact h0' i (List.mem_range.2 hil) (by simp only [h0]; rfl)
    exact ⟨hr, full listed a w hI hr⟩
  | succ fuel ih =>
    intro listed a w hI hf
    refine ⟨full listed a w hI, fun i hi => ?_⟩
    obtain ⟨h0, o, ho, hed⟩ := mem_ready.1 hi
    have hio : i < ops.size := (Array.getElem?_eq_some_iff.1 ho).1
    have hil : i < l.length := by rw [hok.len]; exact hio
    obtain ⟨hils, hif⟩ := getD_false h0
    obtain ⟨d, hd⟩ : ∃ d, l[i]? = some d := ⟨l[i], List.getElem?_eq_getElem hil⟩
    obtain ⟨x, hx⟩ : ∃ x, X[i]? = some x := ⟨X[i]'(by omega), List.getElem?_eq_getElem (by omega)⟩
    obtain ⟨c1, c2, c3, c4⟩ := compI_spec (hok.comp i o d ho hd)
    have hpre : ∀ j, (B.getD i 0).testBit j = true → listed.getD j false = true := fun j hj => by
      obtain ⟨e, he, hb, h1⟩ := hok.bef i o ho j hj
      have h2 := hed e he hb
      rcases h1 with rfl | h1
      · exact h2
      · exact hI.closed e.on j h2 h1
    have hfuel : (List.range l.length).countP (fun j => !(listed.setIfInBounds i true).getD j true) ≤ fuel := by
      have := cnt_update (n := l.length) (i := i) (f := fun j => !(listed.setIfInBounds i true).getD j true) (f' := fun j => !listed.getD j true) (b := true) hil (by simp [hils]) (by simp only [h0]; rfl)
        (fun j hj => by simp only [getD_set_ne true (Ne.symm hj)])
      simp only [if_true] at this
      omega
    have hu : ∀ j t, dstL l i = some t → dstL l j = some t → i = j := fun j t h1 h2 => hok.dst i j t h1 h2
    have hdst : ∀ t, d.i.dst = some t → t < N := fun t ht => c1 t (by rw [← c2]; exact ht)
    obtain ⟨ρ, D, s, hs, hW, hM, hE0, hN, ht⟩ := hI.st
    obtain ⟨g, hg, hgf, hgt⟩ := hstep i d x hd hx
    -- what it looks at
    let R : Env := d.i.looks.map fun t => (t, (envAt l X en i).get t)
    have hR : ∀ t, t ∈ d.i.looks → R.get t = (envAt l X en i).get t := fun t htl => by simp only [R, get_looks, if_pos htl]
    have hER : ER ⟨w, ρ, D, s⟩ R N a.tmps := by
      refine ⟨hN, fun t => ?_⟩
      by_cases htl : t ∈ d.i.looks
      · rw [hR t htl]
        by_cases hex : ∃ j, dstL l j = some t
        · obtain ⟨j, hj⟩ := hex
          rcases hok.look i j d t hd htl hj with ⟨hji, hb⟩ | hlate
          · have hjl : j < X.length := by omega
            rw [envAt_some (x := X[j]) hXl hji hj (fun j' hj' => hok.dst j' j t hj' hj) (List.getElem?_eq_getElem hjl)]
            exact (ht t).1 j _ (hpre j hb) hj (List.getElem?_eq_getElem hjl)
          · have hij : i ≤ j := by rcases hlate with h | h <;> omega
            have hjn : listed.getD j false = false := by
              rcases hlate with ⟨_, hb⟩ | rfl
              · cases hq : listed.getD j false with
                | false => rfl
                | true => have := hI.closed j i hq hb; rw [hif] at this; cases this
              · exact hif
            rw [envAt_none (fun j' hj' e => by have := hok.dst j' j t e hj; omega)]
            exact (ht t).2 (fun j' hj' e => by
              have := hok.dst j' j t e hj
              rw [this, hjn] at hj'; cases hj')
        · have hno : ∀ j, dstL l j ≠ some t := fun j hj => hex ⟨j, hj⟩
          rw [envAt_none (fun j _ => hno j)]
          exact (ht t).2 (fun j _ => hno j)
      · left; simp only [R, get_looks, if_neg htl]
    have hgR : guardA ops R o = some g := by
      rw [c4, ← hg]
      unfold guardV
      split
      · rfl
      · rename_i t w' hgg
        rw [hR t (by simp [AI.looks, hgg])]
    have hwant := guardA_ok hER hgR
    have hκ : (List.range l.length).countP (fun j => effL l j && listed.getD j false) < (st :: T).length := (List.getElem?_eq_some_iff.1 hs).1
    unfold wpOpIn
    simp only [ho]
    rw [hwant]
    have heff : effL l i = (d.k == 2) := by simp [effL, hd]
    -- an operation that turns the objects comes at one moment alone
    have exact2 : d.k = 2 → (List.range l.length).countP (fun j => effL l j && listed.getD j false) = effN l i := fun hk => by
      rw [effN_cnt (by omega)]
      apply Nat.le_antisymm
      · refine cnt_below (fun j hj hf => ?_)
        simp only [Bool.and_eq_true] at hf
        refine ⟨?_, hf.1⟩
        rcases Nat.lt_trichotomy j i with h | h | h
        · exact h
        · subst h; rw [hif] at hf; cases hf.2
        · exfalso
          obtain ⟨d', hd'⟩ : ∃ d', l[j]? = some d' := ⟨l[j], List.getElem?_eq_getElem hj⟩
          have hk' : d'.k = 2 := by have := hf.1; simp [effL, hd'] at this; exact this
          have := hI.closed j i hf.2 (hok.eff i j d d' h hd hd' hk hk')
          rw [hif] at this; cases this
      · refine cnt_le (by omega) (fun j hj hf => ?_)
        obtain ⟨d', hd'⟩ : ∃ d', l[j]? = some d' := ⟨l[j]'(by omega), List.getElem?_eq_getElem (by omega)⟩
        have hk' : d'.k = 2 := by simp [effL, hd'] at hf; exact hf
        simp only [hf, Bool.true_and]
        exact hpre j (hok.eff j i d' d hj hd' hd hk' hk)
    cases g with
    | false =>
      simp only [Bool.false_eq_true, if_false]
      refine ⟨fun f _ => (FR.ext hE0 hF).fn f, ?_⟩
      rw [← c2]
      obtain ⟨rfl, hk2⟩ := hgf rfl
      refine ih _ _ _ (hI.step hd hx hu h0 hpre hdst (s' := s) ?_ ht hN hM hE0 hW (.inr .undef) (.refl _)) hfuel
      rw [heff]
      by_cases hk : d.k = 2
      · obtain ⟨s0, q1, q2⟩ := hk2 hk
        rw [exact2 hk] at hs ⊢
        simp only [hk, beq_self_eq_true, if_true]
        rw [hs] at q1; injection q1 with q1; subst q1
        exact q2
      · simp only [beq_iff_eq, hk, if_false, Nat.add_zero]; exact hs
    | true =>
      simp only [if_true]
      obtain ⟨g2, g1⟩ := hgt rfl
      have cong : ∀ {s : List AO} {K : AV → List AO → Prop}, opC P N rd mk d.i.op (envAt l X en i) s K → OpS P N rd o R mk s K := fun {s K} h => by
        have h1 := opC_congr (en' := R) h (hok.raw i d hd) (fun y hy => by
          cases y with
          | tmp t =>
            have htl : t ∈ d.i.looks := by simp only [AI.looks, List.mem_append]; exact .inr (opT_mem hy)
            simp only [opA, hR t htl]
          | _ => rfl)
        rw [c3] at h1
        exact opC_ok h1
      by_cases hk : d.k = 2
      · obtain ⟨s0, s1, q1, q2, q3⟩ := g2 hk
        have hss := hs
        rw [exact2 hk] at hss
        rw [hss] at q1; injection q1 with q1; subst q1
        refine cong q3 F n a w ρ D _ _ (FR.ext hE0 hF) hW hER hM (fun v w' ρ' D' x' st' k1 k2 k3 k4 => ?_)
        obtain ⟨rfl, rfl⟩ := k4
        rw [← c2]
        refine ih _ _ _ (hI.step hd hx hu h0 hpre hdst ?_ ht hN hM hE0 k1 (.inr k2) k3) hfuel
        rw [heff, exact2 hk]
        simp only [hk, beq_self_eq_true, if_true]
        exact q2
      · have hlo : d.k ≠ 0 → effN l i ≤ (List.range l.length).countP (fun j => effL l j && listed.getD j false) + d.back := fun hk0 => by
          have h1 := hok.back i d hd hk0 hk
          have h2 : (List.range i).countP (fun j => effL l j && (B.getD i 0).testBit j) ≤ (List.range l.length).countP (fun j => effL l j && listed.getD j false) :=
            cnt_le (by omega) (fun j hj hf => by
              simp only [Bool.and_eq_true] at hf ⊢
              exact ⟨hf.1, hpre j hf.2⟩)
          omega
        have hhi : d.k ≠ 0 → (List.range l.length).countP (fun j => effL l j && listed.getD j false) ≤ effN l i + d.fwd := fun hk0 => by
          have h1 := hok.fwd i d hd hk0 hk
          have h2 : (List.range l.length).countP (fun j => effL l j && listed.getD j false) + (List.range l.length).countP (fun j => effL l j && (B.getD j 0).testBit i) ≤ (List.range l.length).countP (effL l) :=
            cnt_disj (fun j hf => by simp only [Bool.and_eq_true] at hf; exact hf.1) (fun j hf => by simp only [Bool.and_eq_true] at hf; exact hf.1) (fun j hj hf hg => by
              simp only [Bool.and_eq_true] at hf hg
              have := hI.closed j i hf.2 hg.2
              rw [hif] at this; cases this)
          have h3 := effN_cnt (l := l) (p := l.length) (Nat.le_refl _)
          omega
        have hop : opC P N rd mk d.i.op (envAt l X en i) s (fun y z => y = x ∧ z = s) := by
          by_cases hk0 : d.k = 0
          · have hq : effN l i < (st :: T).length := by
              have h1 : effN l i ≤ effN l l.length := by rw [effN_cnt (by omega), effN_cnt (Nat.le_refl _)]; exact cnt_le (by omega) (fun _ _ h => h)
              simp; omega
            have := g1 hk (effN l i) _ (List.getElem?_eq_getElem hq) (by omega) (by omega) (fun _ => rfl)
            exact opC_any_st (hok.kind0 i d hd hk0) this s
          · exact g1 hk _ s hs (hlo hk0) (hhi hk0) (fun e => absurd e hk0)
        refine cong hop F n a w ρ D _ _ (FR.ext hE0 hF) hW hER hM (fun v w' ρ' D' x' st' k1 k2 k3 k4 => ?_)
        obtain ⟨rfl, rfl⟩ := k4
        rw [← c2]
        refine ih _ _ _ (hI.step hd hx hu h0 hpre hdst ?_ ht hN hM hE0 k1 (.inr k2) k3) hfuel
        rw [heff]
        simp only [beq_iff_eq, hk, if_false, Nat.add_zero]; exact hs

/-- **A region that draws its order.** -/
theorem aw_draw {ops : Array Oper} {l : List DI} {B : List Nat} {id : Nat} {Q : AQ} (hm : P.follows .mixedOrders = true) (hok : DrawOk P N ops l B)
    (h : drawC P N rd mk l en st [] [] (fun en' st' => Q .normal en' mk st')) : AW P N rd (.region id ops true) en mk st Q := by
  intro F n a w ρ D hF hW hE hM
  obtain ⟨X, T, hXl, hTl, hstep, _, sf, hsf, hK⟩ := drawC_plan h
  simp only [List.reverse_nil, List.nil_append, List.length_nil, Nat.zero_add] at hstep hsf
  obtain ⟨hW', hX'⟩ := WR.data (c := ⟨w, ρ, D, st⟩) hW (Grew.drew w) D (fun _ _ h => h) (fun b off h => .inl h)
  refine wpIn_region_any hm (any_run (c0 := ⟨w, ρ, D, st⟩) hok hXl hTl hstep hF (fun a' w' hI => ?_) ops.size _ a w.drew ?_ ?_)
  · obtain ⟨ρ', D', s, hs, q1, q2, q3, q4, q5⟩ := hI.st
    have hl : ∀ j, j < l.length → (Array.replicate ops.size true).getD j false = true := fun j hj => by
      rw [hok.len] at hj; simp [Array.getD_eq_getD_getElem?, hj]
    have hcnt : (List.range l.length).countP (fun j => effL l j && (Array.replicate ops.size true).getD j false) = effN l l.length := by
      rw [effN_cnt (Nat.le_refl _)]
      exact List.countP_congr (fun j hj => by rw [hl j (List.mem_range.1 hj)]; simp)
    rw [hcnt, hsf] at hs
    injection hs with hs; subst hs
    refine ⟨.normal, _, mk, sf, ρ', D', rfl, q1, ⟨q4, fun t => ?_⟩, q2, q3, hK⟩
    by_cases hex : ∃ j, dstL l j = some t
    · obtain ⟨j, hj⟩ := hex
      have hjl : j < l.length := by
        simp only [dstL, Option.bind_eq_some_iff] at hj
        obtain ⟨d, hd, _⟩ := hj
        exact (List.getElem?_eq_some_iff.1 hd).1
      rw [envAt_some (x := X[j]'(by omega)) hXl hjl hj (fun j' hj' => hok.dst j' j t hj' hj) (List.getElem?_eq_getElem (by omega))]
      exact (q5 t).1 j _ (hl j hjl) hj (List.getElem?_eq_getElem (by omega))
    · have hno : ∀ j, dstL l j ≠ some t := fun j hj => hex ⟨j, hj⟩
      rw [envAt_none (fun j _ => hno j)]
      exact (q5 t).2 (fun j _ => hno j)
  · have hnl : ∀ j, (Array.replicate ops.size false).getD j false = false := fun j => by
      rw [Array.getD_eq_getD_getElem?]
      by_cases hj : j < ops.size <;> simp [hj]
    refine ⟨by simp [hok.len], (fun i j hi => by rw [hnl] at hi; cases hi), ρ, D, st, ?_, hW', hM, hX', hE.1, fun t => ⟨(fun j x hj => by rw [hnl] at hj; cases hj), fun _ => (hE.2 t).imp (fun h => h) (fun ⟨h1, h2⟩ => ⟨h1, h2.mono hX'⟩)⟩⟩
    have : (List.range l.length).countP (fun j => effL l j && (Array.replicate ops.size false).getD j false) = 0 := by
      rw [List.countP_eq_zero]; intro j _; rw [hnl]; simp
    rw [this]; rfl
  · refine Nat.le_trans (List.countP_le_length ..) ?_
    simp [hok.len]

end
end Go.AW

/-
  AW, part 15f: regions that draw their order, as they are read.
-/
namespace Go.AW
open Go Go.RowKit
set_option linter.unusedVariables false
set_option linter.unusedSimpArgs false

def mkD (B : List Nat) (ks : List Nat) : Nat → List AI → List DI
  | _, [] => []
  | i, a :: r =>
    let k := ks.getD i 0
    ⟨a, k, if k = 1 then (List.range i).countP (fun j => ks.getD j 0 == 2 && !(B.getD i 0).testBit j) else 0,
      if k = 1 then (List.range ks.length).countP (fun j => ks.getD j 0 == 2 && decide (i < j) && !(B.getD j 0).testBit i) else 0⟩ :: mkD B ks (i + 1) r

theorem mkD_map {B ks : List Nat} : ∀ {l : List AI} {i : Nat}, (mkD B ks i l).map (·.i) = l
  | [], _ => rfl
  | a :: r, i => by simp [mkD, mkD_map]

def nodupB : List Nat → Bool
  | [] => true
  | x :: r => r.all (fun y => y != x) && nodupB r
def dstsFrom : Nat → List DI → List (Nat × Nat)
  | _, [] => []
  | i, d :: r => match d.i.dst with
    | some t => (t, i) :: dstsFrom (i + 1) r
    | none => dstsFrom (i + 1) r
def lookP : List (Nat × Nat) → Nat → Option Nat
  | [], _ => none
  | (k, v) :: r, t => if t = k then some v else lookP r t

theorem dstsFrom_mem : ∀ {l : List DI} {i j t : Nat}, dstL l j = some t → (t, i + j) ∈ dstsFrom i l
  | [], i, j, t, h => by simp [dstL] at h
  | d :: r, i, 0, t, h => by
    simp [dstL] at h
    simp [dstsFrom, h]
  | d :: r, i, j + 1, t, h => by
    have := dstsFrom_mem (l := r) (i := i + 1) (j := j) (t := t) (by simpa [dstL] using h)
    rw [show i + (j + 1) = i + 1 + j by omega]
    simp only [dstsFrom]
    split
    · exact List.mem_cons_of_mem _ this
    · exact this

theorem nodup_lookP : ∀ {l : List (Nat × Nat)} {t j : Nat}, nodupB (l.map (·.1)) = true → (t, j) ∈ l → lookP l t = some j
  | [], t, j, _, h => by simp at h
  | (k, v) :: r, t, j, hn, h => by
    simp only [List.map_cons, nodupB, Bool.and_eq_true, List.all_eq_true, List.mem_map, bne_iff_ne, ne_eq, forall_exists_index, and_imp, forall_apply_eq_imp_iff₂] at hn
    simp only [lookP]
    rcases List.mem_cons.1 h with h | h
    · injection h with h1 h2; subst h1; subst h2; simp
    · have := hn.1 (t, j) h
      rw [if_neg this]
      exact nodup_lookP hn.2 h

def edgesOk : Nat → List Oper → Bool
  | _, [] => true
  | i, o :: r => o.after.toList.all (fun e => !Region.binds .any e || decide (e.on < i)) && edgesOk (i + 1) r
theorem edgesOk_spec : ∀ {l : List Oper} {i j : Nat} {o : Oper}, edgesOk i l = true → l[j]? = some o → ∀ e ∈ o.after, Region.binds .any e = true → e.on < i + j
  | [], i, j, o, _, h => by simp at h
  | o' :: r, i, 0, o, hok, h => by
    simp at h; subst h
    simp only [edgesOk, Bool.and_eq_true, List.all_eq_true] at hok
    intro e he hb
    have := hok.1 e (by simpa using he)
    simpa [hb] using this
  | o' :: r, i, j + 1, o, hok, h => by
    simp only [edgesOk, Bool.and_eq_true] at hok
    have := edgesOk_spec (i := i + 1) (j := j) (o := o) hok.2 (by simpa using h)
    intro e he hb
    have := this e he hb
    omega

def looksOk (B : List Nat) (dl : List (Nat × Nat)) : Nat → List DI → Bool
  | _, [] => true
  | i, d :: r => (!d.i.op.isRaw && (d.k != 0 || d.i.op.kind == 0) && d.i.looks.all (fun t => match lookP dl t with
      | some j => decide (j < i) && (B.getD i 0).testBit j || decide (i < j) && (B.getD j 0).testBit i || i == j
      | none => true)) && looksOk B dl (i + 1) r
theorem looksOk_spec {B : List Nat} {dl : List (Nat × Nat)} : ∀ {l : List DI} {i j : Nat} {d : DI}, looksOk B dl i l = true → l[j]? = some d →
    d.i.op.isRaw = false ∧ (d.k = 0 → d.i.op.kind = 0) ∧ ∀ t ∈ d.i.looks, ∀ q, lookP dl t = some q → (q < i + j ∧ (B.getD (i + j) 0).testBit q = true) ∨ (i + j < q ∧ (B.getD q 0).testBit (i + j) = true) ∨ i + j = q
  | [], i, j, d, _, h => by simp at h
  | d' :: r, i, 0, d, hok, h => by
    simp at h; subst h
    simp only [looksOk, Bool.and_eq_true, List.all_eq_true, Bool.not_eq_true', Bool.or_eq_true, bne_iff_ne, ne_eq, beq_iff_eq] at hok
    refine ⟨hok.1.1.1, fun h => hok.1.1.2.resolve_left (fun e => e h), fun t ht q hq => ?_⟩
    have := hok.1.2 t ht
    rw [hq] at this
    simpa [or_assoc] using this
  | d' :: r, i, j + 1, d, hok, h => by
    simp only [looksOk, Bool.and_eq_true] at hok
    have := looksOk_spec (i := i + 1) (j := j) (d := d) hok.2 (by simpa using h)
    rw [show i + (j + 1) = i + 1 + j by omega]
    exact this

def effIx : Nat → List DI → List Nat
  | _, [] => []
  | i, d :: r => if d.k = 2 then i :: effIx (i + 1) r else effIx (i + 1) r
def pairsOk (B : List Nat) : List Nat → Bool
  | [] => true
  | i :: r => r.all (fun j => (B.getD j 0).testBit i) && pairsOk B r
theorem effIx_ge : ∀ {l : List DI} {i j : Nat} {d : DI}, l[j]? = some d → d.k = 2 → i + j ∈ effIx i l
  | [], i, j, d, h, _ => by simp at h
  | d' :: r, i, 0, d, h, hk => by simp at h; subst h; simp [effIx, hk]
  | d' :: r, i, j + 1, d, h, hk => by
    have := effIx_ge (l := r) (i := i + 1) (j := j) (by simpa using h) hk
    rw [show i + (j + 1) = i + 1 + j by omega]
    simp only [effIx]
    split
    · exact List.mem_cons_of_mem _ this
    · exact this
theorem pairsOk_spec {B : List Nat} : ∀ {l : List DI} {i p q : Nat} {d d' : DI}, pairsOk B (effIx i l) = true → p < q → l[p]? = some d → l[q]? = some d' → d.k = 2 → d'.k = 2 → (B.getD (i + q) 0).testBit (i + p) = true
  | [], i, p, q, d, d', _, _, h, _, _, _ => by simp at h
  | e :: r, i, 0, 0, d, d', hok, hlt, h1, h2, k1, k2 => by omega
  | e :: r, i, 0, q + 1, d, d', hok, hlt, h1, h2, k1, k2 => by
    simp at h1; subst h1
    simp only [effIx, if_pos k1, pairsOk, Bool.and_eq_true, List.all_eq_true] at hok
    have := hok.1 (i + 1 + q) (effIx_ge (by simpa using h2) k2)
    rw [show i + (q + 1) = i + 1 + q by omega, Nat.add_zero]; exact this
  | e :: r, i, p + 1, q, d, d', hok, hlt, h1, h2, k1, k2 => by
    obtain ⟨q, rfl⟩ : ∃ q', q = q' + 1 := ⟨q - 1, by omega⟩
    have hok' : pairsOk B (effIx (i + 1) r) = true := by
      simp only [effIx] at hok
      split at hok
      · simp only [pairsOk, Bool.and_eq_true] at hok; exact hok.2
      · exact hok
    have := pairsOk_spec (i := i + 1) (p := p) (q := q) hok' (by omega) (by simpa using h1) (by simpa using h2) k1 k2
    rw [show i + (q + 1) = i + 1 + q by omega, show i + (p + 1) = i + 1 + p by omega]; exact this

def winOk (B : List Nat) (l : List DI) : Nat → List DI → Bool
  | _, [] => true
  | i, d :: r => (d.k == 0 || d.k == 2 || (decide (effN l i ≤ d.back + (List.range i).countP (fun j => effL l j && (B.getD i 0).testBit j)) &&
      decide (effN l l.length ≤ effN l i + d.fwd + (List.range l.length).countP (fun j => effL l j && (B.getD j 0).testBit i)))) && winOk B l (i + 1) r
theorem winOk_spec {B : List Nat} {l : List DI} : ∀ {r : List DI} {i j : Nat} {d : DI}, winOk B l i r = true → r[j]? = some d → d.k ≠ 0 → d.k ≠ 2 →
    effN l (i + j) ≤ d.back + (List.range (i + j)).countP (fun q => effL l q && (B.getD (i + j) 0).testBit q) ∧ effN l l.length ≤ effN l (i + j) + d.fwd + (List.range l.length).countP (fun q => effL l q && (B.getD q 0).testBit (i + j))
  | [], i, j, d, _, h, _, _ => by simp at h
  | e :: r, i, 0, d, hok, h, k0, k2 => by
    simp at h; subst h
    simp only [winOk, Bool.and_eq_true, Bool.or_eq_true, beq_iff_eq, decide_eq_true_eq] at hok
    rcases hok.1 with (h | h) | h
    · exact absurd h k0
    · exact absurd h k2
    · exact h
  | e :: r, i, j + 1, d, hok, h, k0, k2 => by
    simp only [winOk, Bool.and_eq_true] at hok
    have := winOk_spec (i := i + 1) (j := j) (d := d) hok.2 (by simpa using h) k0 k2
    rw [show i + (j + 1) = i + 1 + j by omega]
    exact this

def drawOkB (ops : Array Oper) (l : List DI) (B : List Nat) : Bool :=
  edgesOk 0 ops.toList && nodupB ((dstsFrom 0 l).map (·.1)) && looksOk B (dstsFrom 0 l) 0 l && pairsOk B (effIx 0 l) && winOk B l 0 l

/-- Kinds, where calls leave the objects alone. -/
def kindC (i : AI) : Nat := match i.op with
  | .call _ _ => 1
  | op => op.kind

def drawL (P : Program) (N : Nat) (ops : Array Oper) : Option (List DI) := match compL P N ops ops.toList with
  | none => none
  | some l =>
    let B := befs ops.toList []
    let l1 := mkD B (l.map fun i => i.op.kind) 0 l
    if drawOkB ops l1 B then some l1 else
      let l2 := mkD B (l.map kindC) 0 l
      if drawOkB ops l2 B then some l2 else none

section
variable {P : Program} {N : Nat} {rd : Option Nat} {en : Env} {mk : List Nat} {st : List AO}

theorem compL_spec {ops : Array Oper} : ∀ {os : List Oper} {l : List AI}, compL P N ops os = some l → l.length = os.length ∧ ∀ (i : Nat) o a, os[i]? = some o → l[i]? = some a → compI P N ops o = some a
  | [], l, h => by simp [compL] at h; subst h; simp
  | o :: os, l, h => by
    simp only [compL] at h
    split at h
    · rename_i a l' h1 h2
      injection h with h; subst h
      obtain ⟨k1, k2⟩ := compL_spec h2
      refine ⟨by simp [k1], fun i o' a' ho ha => ?_⟩
      cases i with
      | zero => simp at ho ha; subst ho; subst ha; exact h1
      | succ i => simp at ho ha; exact k2 i o' a' ho ha
    · cases h

theorem drawOkB_ok {ops : Array Oper} {l : List DI} {li : List AI} (hc : compL P N ops ops.toList = some li) (hl : l.map (·.i) = li) (h : drawOkB ops l (befs ops.toList []) = true) : DrawOk P N ops l (befs ops.toList []) := by
  simp only [drawOkB, Bool.and_eq_true] at h
  obtain ⟨⟨⟨⟨h1, h2⟩, h3⟩, h4⟩, h5⟩ := h
  obtain ⟨c1, c2⟩ := compL_spec hc
  have hlen : l.length = ops.size := by
    have := congrArg List.length hl
    simp at this c1; omega
  have hlk : ∀ {j t}, dstL l j = some t → lookP (dstsFrom 0 l) t = some j := fun {j t} hj => nodup_lookP h2 (by have := dstsFrom_mem (i := 0) hj; simpa using this)
  refine ⟨hlen, fun i o d ho hd => ?_, fun i o e ho he hb => ?_, fun i o ho j hj => ?_, fun i d hd => (looksOk_spec h3 hd).1, fun i d hd => (looksOk_spec h3 hd).2.1, fun i j t hi hj => ?_, fun i j d t hd ht hj => ?_, fun i j d d' hij hi hj k1 k2 => ?_, fun i d hd k0 k2 => ?_, fun i d hd k0 k2 => ?_⟩
  · refine c2 i o d.i (by simpa using ho) ?_
    rw [← hl, List.getElem?_map, hd]; rfl
  · have := edgesOk_spec h1 (j := i) (o := o) (by simpa using ho) e he hb
    simpa using this
  · have := befs_spec ops.toList [] i o (by simpa using ho) j (by simpa using hj)
    simpa using this
  · have := (hlk hi).symm.trans (hlk hj)
    injection this
  · have := (looksOk_spec h3 hd).2.2 t ht j (hlk hj)
    simpa using this
  · have := pairsOk_spec h4 hij hi hj k1 k2
    simpa using this
  · have := (winOk_spec h5 hd k0 k2).1
    simpa using this
  · have := (winOk_spec h5 hd k0 k2).2
    simpa using this

theorem drawL_ok {ops : Array Oper} {l : List DI} (h : drawL P N ops = some l) : ∃ B, DrawOk P N ops l B := by
  unfold drawL at h
  split at h
  · cases h
  · rename_i li hc
    simp only at h
    split at h
    · rename_i hb
      injection h with h; subst h
      exact ⟨_, drawOkB_ok hc mkD_map hb⟩
    · split at h
      · rename_i hb
        injection h with h; subst h
        exact ⟨_, drawOkB_ok hc mkD_map hb⟩
      · cases h

end
end Go.AW
