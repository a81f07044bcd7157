/-
  Maps, stores and appends in place.
-/
import Derived.Test.YtkpnemmniepchaaGreatW3
import Derived.Maps.RangeRun
/-
  AW, part 14a: maps.
-/
namespace Go.AW
open Go Go.RowKit
set_option linter.unusedVariables false
set_option linter.unusedSimpArgs false

section
variable {P : Program} {N : Nat} {rd : Option Nat} {o : Oper} {en : Env} {mk : List Nat} {st : List AO} {K : AV → List AO → Prop} {c : Cx} {a : Act}

theorem ops_mkmap {t : TypeId} (ho : o.op = .makeMap t none) (hK : K (.mp st.length) (st ++ [.map 0 []])) : OpS P N rd o en mk st K := by
  refine ops_run (by simp [ho]) (fun w ρ D a hW hE => ?_)
  have hl : ρ.length = st.length := hW.len
  have hU := WR.push (c := ⟨w, ρ, D, st⟩) hW (Grew.alloc w (.map #[] 0)) (.map (some w.heap.size)) (.map 0 []) (fun b hb _ _ => by simp [hblk] at hb; subst hb; simp) (fun c' e1 e2 e3 e4 hx => by
    refine ⟨w.heap.size, ?_, by rw [e1]; exact World.alloc_heap_new _ _, by simp, by simp, by simp⟩
    rw [e3, ← hl]; simp)
  refine ⟨.map (some w.heap.size), _, _, _, _, _, .inl ?_, hU.1, .mp ?_, hU.2, hK⟩
  · simp [execOp, ho, Instr.makeMap, Sem.run_bind]
  · simp [← hl]

/-- A map that turns. -/
theorem map_turn (hW : WR c) {i b clk clk' : Nat} {ents ents' : List MapEntry} (hst : c.st[i]? = some (.map clk ents)) (hρ : c.ρ[i]? = some (.map (some b))) (hb : c.w.heap[b]? = some (.map ents.toArray clk))
    (h1 : ents'.length ≤ 140737488355328) (h2 : clk' ≤ 140737488355328) (h3 : ∀ e ∈ ents', e.born < clk') :
    WR ⟨c.w.putObj b (.map ents'.toArray clk'), c.ρ, c.D, c.st.set i (.map clk' ents')⟩ ∧ Ext c ⟨c.w.putObj b (.map ents'.toArray clk'), c.ρ, c.D, c.st.set i (.map clk' ents')⟩ := by
  have hown : Owns c i b := ⟨_, _, hst, rfl, hρ, rfl, fun _ _ _ h => by cases h⟩
  have hset : c.ρ.set i (.map (some b)) = c.ρ := by
    apply List.ext_getElem?; intro k
    rw [List.getElem?_set]
    split
    · rename_i h; subst h; rw [hρ]; simp [(List.getElem?_eq_some_iff.1 hρ).1]
    · rfl
  have hU := WR.upd (c := c) hW (w' := c.w.putObj b (.map ents'.toArray clk')) (h := .map (some b)) (o := .map clk' ents') hst hρ ⟨rfl, rfl, rfl⟩ (by simp)
    (fun k hk hnk => World.putObj_heap_other (fun e => hnk (e ▸ hown))) (.inl rfl) (fun _ _ _ h => by cases h) (fun b' hb _ _ => .inl (by simp [hblk] at hb; exact hb ▸ hown))
    (fun c' e1 e2 e3 e4 hx => ⟨b, by rw [e3, hset]; exact hρ, by rw [e1]; exact World.putObj_heap_same (hW.lt i b hown), h1, h2, h3⟩)
  rw [hset] at hU
  exact hU

theorem rsm {w : World} {r : Nat} {es : Array MapEntry} {clock : Nat} (hb : w.heap[r]? = some (.map es clock)) (o : Obj) : (setObj r o).run P w = .ok () (w.putObj r o) := by simp [setObj, Sem.run, hb, World.putObj]

theorem mp_val (hW : WR c) {i clk : Nat} {ents : List MapEntry} {v : Value} (hst : c.st[i]? = some (.map clk ents)) (hv : VR c (.mp i) v) :
    ∃ b, v = .map (some b) ∧ c.ρ[i]? = some (.map (some b)) ∧ c.w.heap[b]? = some (.map ents.toArray clk) ∧ ents.length ≤ 140737488355328 ∧ clk ≤ 140737488355328 ∧ ∀ e ∈ ents, e.born < clk := by
  obtain ⟨b, k1, k2, k3⟩ := hW.obj i _ hst
  cases hv with
  | mp hb => rw [k1] at hb; injection hb with hb; exact ⟨b, hb.symm, k1, k2, k3⟩

theorem babeq {s t : ByteArray} (h : (s == t) = true) : s = t := by
  obtain ⟨a⟩ := s; obtain ⟨b⟩ := t
  have h' : (a == b) = true := h
  rw [eq_of_beq h']
theorem babeq_refl {s : ByteArray} : (s == s) = true := by
  obtain ⟨a⟩ := s
  show (a == a) = true
  simp

theorem sameBits_one {n : Nat} {u v : Value} (h : keyEq1 u v = some true) : Instr.sameBits (n + 1) v u = true := by
  cases u <;> cases v <;> simp [keyEq1] at h <;> first
    | (simp [Instr.sameBits, h]; done)
    | (have := babeq h; subst this; simp [Instr.sameBits, babeq_refl])
theorem sameBits_list {n : Nat} : ∀ {as bs : List Value}, keyEqL as bs = some true → as.length = bs.length ∧ ((bs.zip as).all fun (x, y) => Instr.sameBits (n + 1) x y) = true
  | [], [], _ => ⟨rfl, rfl⟩
  | a :: as, b :: bs, h => by
    simp only [keyEqL] at h
    cases hk : keyEq1 a b with
    | none => rw [hk] at h; cases h
    | some q =>
      rw [hk] at h
      cases q with
      | false => cases h
      | true =>
        obtain ⟨h1, h2⟩ := sameBits_list (n := n) h
        refine ⟨by simp [h1], ?_⟩
        simp only [List.zip_cons_cons, List.all_cons, Bool.and_eq_true]
        exact ⟨sameBits_one hk, h2⟩
  | [], _ :: _, h => by simp [keyEqL] at h
  | _ :: _, [], h => by simp [keyEqL] at h

theorem sameBits_key {u v : Value} (h : keyEq u v = some true) : Instr.sameBits 10000 v u = true := by
  show Instr.sameBits (9998 + 1 + 1) v u = true
  cases u with
  | agg as =>
    cases v with
    | agg bs =>
      simp only [keyEq] at h
      split at h
      · obtain ⟨h1, h2⟩ := sameBits_list (n := 9998) h
        simp only [Instr.sameBits, Bool.and_eq_true]
        exact ⟨by simpa using h1.symm, h2⟩
      · cases h
    | _ => simp [keyEq, keyEq1] at h
  | _ =>
    cases v <;> first
      | (simp [keyEq, keyEq1] at h; done)
      | exact sameBits_one (by simpa [keyEq] using h)

theorem findK_get {key : Value} : ∀ {ents : List MapEntry} {i j : Nat}, findK key ents i = some (some j) → i ≤ j ∧ ∃ e, ents[j - i]? = some e ∧ keyEq key e.key = some true
  | [], i, j, h => by simp [findK] at h
  | e :: es, i, j, h => by
    simp only [findK] at h
    split at h
    · rename_i hb
      simp at h; subst h
      exact ⟨Nat.le_refl _, e, by simp, hb⟩
    · obtain ⟨h1, e', h2, h3⟩ := findK_get h
      refine ⟨by omega, e', ?_, h3⟩
      rw [show j - i = (j - (i + 1)) + 1 by omega, List.getElem?_cons_succ]; exact h2
    · cases h

theorem run_stays {w : World} {u v : Value} (h : keyEq u v = some true) : (Instr.keyThatStays v u).run P w = .ok u w := by
  simp [Instr.keyThatStays, sameBits_key h]

theorem born_modify {ents : List MapEntry} {clk j : Nat} {f : MapEntry → MapEntry} (hf : ∀ e, (f e).born = e.born) (h : ∀ e ∈ ents, e.born < clk) : ∀ e ∈ ents.modify j f, e.born < clk := by
  intro e he
  obtain ⟨k, hk, rfl⟩ := List.getElem_of_mem he
  rw [List.getElem_modify]
  split
  · rw [hf]; exact h _ (List.getElem_mem _)
  · exact h _ (List.getElem_mem _)

theorem ops_mupd {t : TypeId} {y z u : Operand} {kt et : TypeId} {i clk : Nat} {tag : KS} {ents : List MapEntry} {key val : Value} {r : Option Nat} (ho : o.op = .mapUpdate t y z u ∨ o.op = .insert t y z u) (hu : P.underlying t = some (.map kt et))
    (hkt : keyT P kt = some tag) (hy : opA en y = .mp i) (hz : keyG tag (opA en z) = some key) (hv : opA en u = .sc val) (hst : st[i]? = some (.map clk ents)) (hf : findK key ents 0 = some r)
    (hK : match r with
      | some j => K .any (st.set i (.map clk (ents.modify j fun e => { e with key := key, val := val })))
      | none => (ents.length < 140737488355328 ∧ clk < 140737488355328) ∧ K .any (st.set i (.map (clk + 1) (ents ++ [⟨key, val, clk⟩])))) : OpS P N rd o en mk st K := by
  refine ops_run (by rcases ho with ho | ho <;> simp [ho]) (fun w ρ D a hW hE => ?_)
  have hyv := hE.opA (a := a) y
  rw [hy] at hyv
  obtain ⟨b, hyv, k1, k2, k3, k4, k5⟩ := mp_val (c := ⟨w, ρ, D, st⟩) hW hst hyv
  obtain ⟨hzv, htag⟩ := keyG_val (hE.opA (a := a) z) hz
  have huv := hE.opA (a := a) u
  rw [hv] at huv
  have huv : a.eval u = val := by generalize a.eval u = x at huv; cases huv; rfl
  have hck : ∀ bb, (Instr.checkKey bb 10000 kt key).run P w = .ok () w := fun bb => check_ok hkt htag _
  have hfk := find_ok (P := P) (w := w) hkt htag hf
  have hex : ∀ w', (Instr.mapUpdate t (a.eval y) (a.eval z) (a.eval u)).run P w = .ok () w' → (execOp a.eval o).run P w = .ok .skip w' := fun w' h => by
    rcases ho with ho | ho <;> simp [execOp, ho, Sem.run_bind, h]
  cases r with
  | some j =>
    obtain ⟨_, e, he, hke⟩ := findK_get hf
    simp only [Nat.sub_zero] at he
    obtain ⟨q1, q2⟩ := map_turn (c := ⟨w, ρ, D, st⟩) hW (ents' := ents.modify j fun e => { e with key := key, val := val }) (clk' := clk) hst k1 k2 (by simpa using k3) k4 (born_modify (fun _ => rfl) k5)
    refine ⟨undef, .any, _, _, _, _, .inr ⟨hex _ ?_, rfl⟩, q1, .any, q2, hK⟩
    unfold Instr.mapUpdate
    rw [hyv, hzv, huv]
    simp only [Sem.run_bind, run_under hu, Result.andThen_ok, rgm k2, hck, hfk, he, Option.bind_some, Option.map_some, List.getElem?_toArray, Option.getD_some, run_stays hke, rsm k2]
    simp
  | none =>
    obtain ⟨q1, q2⟩ := map_turn (c := ⟨w, ρ, D, st⟩) hW (ents' := ents ++ [⟨key, val, clk⟩]) (clk' := clk + 1) hst k1 k2 (by simp; omega) (by omega) (fun e he => by
      rcases List.mem_append.1 he with h | h
      · have := k5 e h; omega
      · simp at h; subst h; simp)
    refine ⟨undef, .any, _, _, _, _, .inr ⟨hex _ ?_, rfl⟩, q1, .any, q2, hK.2⟩
    unfold Instr.mapUpdate
    rw [hyv, hzv, huv]
    simp only [Sem.run_bind, run_under hu, Result.andThen_ok, rgm k2, hck, hfk, Option.bind_none, rsm k2]
    simp

theorem ops_mentry {t : TypeId} {y z : Operand} {kt et : TypeId} {i clk : Nat} {tag : KS} {ents : List MapEntry} {key zv : Value} {r : Option Nat} (ho : o.op = .mapEntry t y z) (hu : P.underlying t = some (.map kt et))
    (hzr : (P.info? et).bind (·.zero) = some zv)
    (hkt : keyT P kt = some tag) (hy : opA en y = .mp i) (hz : keyG tag (opA en z) = some key) (hst : st[i]? = some (.map clk ents)) (hf : findK key ents 0 = some r)
    (hK : match r with
      | some j => ∀ e, ents[j]? = some e → K (.tup [constA e.val, .sc (.int .i64 (e.born : Int))]) (st.set i (.map clk (ents.modify j fun e => { e with key := key })))
      | none => (ents.length < 140737488355328 ∧ clk < 140737488355328) ∧ K (.tup [constA zv, .sc (.int .i64 (clk : Int))]) (st.set i (.map (clk + 1) (ents ++ [⟨key, zv, clk⟩])))) : OpS P N rd o en mk st K := by
  refine ops_run (by simp [ho]) (fun w ρ D a hW hE => ?_)
  have hyv := hE.opA (a := a) y
  rw [hy] at hyv
  obtain ⟨b, hyv, k1, k2, k3, k4, k5⟩ := mp_val (c := ⟨w, ρ, D, st⟩) hW hst hyv
  obtain ⟨hzv, htag⟩ := keyG_val (hE.opA (a := a) z) hz
  have hck : ∀ bb, (Instr.checkKey bb 10000 kt key).run P w = .ok () w := fun bb => check_ok hkt htag _
  have hfk := find_ok (P := P) (w := w) hkt htag hf
  have hzr' : (zeroValue et).run P w = .ok zv w := by
    cases hi : P.info? et with
    | none => simp [hi] at hzr
    | some i => simp [hi] at hzr; simp [zeroValue, run_tinfo hi, Sem.run_bind, hzr]
  have hex : ∀ v w', (Instr.mapEntry t (a.eval y) (a.eval z)).run P w = .ok v w' → (execOp a.eval o).run P w = .ok (.value v) w' := fun v w' h => by
    simp [execOp, ho, Sem.run_bind, h]
  have vr2 : ∀ {c' : Cx} (v : Value) (n : Nat), n ≤ 140737488355328 → VR c' (.tup [constA v, .sc (.int .i64 (n : Int))]) (.tuple #[v, goInt n]) := fun v n hn => .tup rfl (fun i x v hx hv => by
    match i, hx, hv with
    | 0, hx, hv => simp at hx hv; subst hx; subst hv; exact .constA _
    | 1, hx, hv =>
      simp at hx hv; subst hx; subst hv
      refine .sc ?_
      simp [plainV, IntKind.min, IntKind.max, IntKind.bits, IntKind.signed]; omega)
  cases r with
  | some j =>
    obtain ⟨_, e, he, hke⟩ := findK_get hf
    simp only [Nat.sub_zero] at he
    obtain ⟨q1, q2⟩ := map_turn (c := ⟨w, ρ, D, st⟩) hW (ents' := ents.modify j fun e => { e with key := key }) (clk' := clk) hst k1 k2 (by simpa using k3) k4 (born_modify (fun _ => rfl) k5)
    have hb := k5 e (List.mem_of_getElem? he)
    refine ⟨.tuple #[e.val, goInt e.born], _, _, _, _, _, .inl (hex _ _ ?_), q1, vr2 e.val e.born (by omega), q2, hK e he⟩
    unfold Instr.mapEntry
    rw [hyv, hzv]
    simp only [Sem.run_bind, run_under hu, Result.andThen_ok, rgm k2, hck, hfk, he, Option.bind_some, Option.map_some, List.getElem?_toArray, Option.getD_some, run_stays hke, rsm k2]
    simp
  | none =>
    obtain ⟨q1, q2⟩ := map_turn (c := ⟨w, ρ, D, st⟩) hW (ents' := ents ++ [⟨key, zv, clk⟩]) (clk' := clk + 1) hst k1 k2 (by simp; omega) (by omega) (fun e he => by
      rcases List.mem_append.1 he with h | h
      · have := k5 e h; omega
      · simp at h; subst h; simp)
    refine ⟨.tuple #[zv, goInt clk], _, _, _, _, _, .inl (hex _ _ ?_), q1, vr2 zv clk k4, q2, hK.2⟩
    unfold Instr.mapEntry
    rw [hyv, hzv]
    simp only [Sem.run_bind, run_under hu, Result.andThen_ok, rgm k2, hck, hfk, Option.bind_none, rsm k2, hzr']
    simp

theorem ops_estore {t : TypeId} {y s u : Operand} {i clk j : Nat} {ents : List MapEntry} {val : Value} {k : IntKind} {n : Int} (ho : o.op = .entryStore t y s u)
    (hy : opA en y = .mp i) (hs : opA en s = .sc (.int k n)) (hv : opA en u = .sc val) (hst : st[i]? = some (.map clk ents)) (hf : ents.findIdx? (fun e => (e.born : Int) == n) = some j)
    (hK : K .any (st.set i (.map clk (ents.modify j fun e => { e with val := val })))) : OpS P N rd o en mk st K := by
  refine ops_run (by simp [ho]) (fun w ρ D a hW hE => ?_)
  have hyv := hE.opA (a := a) y
  rw [hy] at hyv
  obtain ⟨b, hyv, k1, k2, k3, k4, k5⟩ := mp_val (c := ⟨w, ρ, D, st⟩) hW hst hyv
  have huv := hE.opA (a := a) u
  rw [hv] at huv
  have huv : a.eval u = val := by generalize a.eval u = x at huv; cases huv; rfl
  have hsv := hE.opA (a := a) s
  rw [hs] at hsv
  have hsv : a.eval s = .int k n := by generalize a.eval s = x at hsv; cases hsv; rfl
  obtain ⟨q1, q2⟩ := map_turn (c := ⟨w, ρ, D, st⟩) hW (ents' := ents.modify j fun e => { e with val := val }) (clk' := clk) hst k1 k2 (by simpa using k3) k4 (born_modify (fun _ => rfl) k5)
  refine ⟨undef, .any, _, _, _, _, .inr ⟨?_, rfl⟩, q1, .any, q2, hK⟩
  have hfi : ents.toArray.findIdx? (fun e => (e.born : Int) == n) = some j := by rw [List.findIdx?_toArray]; exact hf
  have : (Instr.entryStore t (a.eval y) (a.eval s) (a.eval u)).run P w = .ok () (w.putObj b (.map (ents.modify j fun e => { e with val := val }).toArray clk)) := by
    unfold Instr.entryStore
    rw [hyv, hsv, huv]
    simp only [Sem.run_bind, Result.andThen_ok, rgm k2, asInt, asIntOf, Sem.run_pure, hfi, rsm k2]
    simp
  simp [execOp, ho, Sem.run_bind, this]

theorem ops_mdel {cl : Call} {t t' : TypeId} {y z : Operand} {kt et : TypeId} {i clk : Nat} {tag : KS} {ents : List MapEntry} {key : Value} {r : Option Nat} (ho : o.op = .call cl) (hcal : cl.callee = .builtin .delete) (hA : cl.args = #[y, z]) (hT : ∃ r, cl.argTypes = (t :: r).toArray)
    (hu : P.underlying t = some (.map kt et)) (hkt : keyT P kt = some tag) (hy : opA en y = .mp i) (hz : keyG tag (opA en z) = some key) (hst : st[i]? = some (.map clk ents)) (hf : findK key ents 0 = some r)
    (hK : match r with
      | some j => K .any (st.set i (.map clk (ents.eraseIdx j)))
      | none => K .any st) : OpS P N rd o en mk st K := by
  refine ops_run (by simp [ho]) (fun w ρ D a hW hE => ?_)
  have hyv := hE.opA (a := a) y
  rw [hy] at hyv
  obtain ⟨b, hyv, k1, k2, k3, k4, k5⟩ := mp_val (c := ⟨w, ρ, D, st⟩) hW hst hyv
  obtain ⟨hzv, htag⟩ := keyG_val (hE.opA (a := a) z) hz
  have hck : ∀ bb, (Instr.checkKey bb 10000 kt key).run P w = .ok () w := fun bb => check_ok hkt htag _
  have hfk := find_ok (P := P) (w := w) hkt htag hf
  obtain ⟨rt, hT⟩ := hT
  have hex : ∀ v w', (Builtin.delete_ (t :: rt).toArray o.type #[a.eval y, a.eval z]).run P w = .ok v w' → (execOp a.eval o).run P w = .ok (.value v) w' := fun v w' h => by
    simp [execOp, ho, resolve, hcal, hA, hT, invoke, builtin, Sem.run_bind, h]
  cases r with
  | some j =>
    obtain ⟨_, e, he, hke⟩ := findK_get hf
    simp only [Nat.sub_zero] at he
    obtain ⟨q1, q2⟩ := map_turn (c := ⟨w, ρ, D, st⟩) hW (ents' := ents.eraseIdx j) (clk' := clk) hst k1 k2 (by have := List.length_eraseIdx_le ents j; omega) k4 (fun e he => k5 e (List.mem_of_mem_eraseIdx he))
    refine ⟨.tuple #[], .any, _, _, _, _, .inl (hex _ _ ?_), q1, .any, q2, hK⟩
    unfold Builtin.delete_
    rw [hyv, hzv]
    simp only [Sem.run_bind, run_under hu, Result.andThen_ok, rgm k2, hck, hfk, he, Option.bind_some, Option.map_some, List.getElem?_toArray, rsm k2]
    have hjl : j < ents.length := (List.getElem?_eq_some_iff.1 he).1
    simp [run_under hu, Sem.run_bind, rgm k2, hck, hfk, he, rsm k2]
  | none =>
    obtain ⟨q1, q2⟩ := map_turn (c := ⟨w, ρ, D, st⟩) hW (ents' := ents) (clk' := clk) hst k1 k2 k3 k4 k5
    have hset : st.set i (.map clk ents) = st := by
      apply List.ext_getElem?; intro k
      rw [List.getElem?_set]
      split
      · rename_i h; subst h; rw [hst]; simp [(List.getElem?_eq_some_iff.1 hst).1]
      · rfl
    simp only [hset] at q1 q2
    refine ⟨.tuple #[], .any, _, _, _, _, .inl (hex _ _ ?_), q1, .any, q2, hK⟩
    unfold Builtin.delete_
    rw [hyv, hzv]
    simp [run_under hu, Sem.run_bind, rgm k2, hck, hfk, rsm k2]

theorem ops_range {t : TypeId} {y : Operand} {kt et : TypeId} {i clk : Nat} {ents : List MapEntry} (ho : o.op = .range t y) (hu : P.underlying t = some (.map kt et)) (hy : opA en y = .mp i) (hst : st[i]? = some (.map clk ents))
    (hK : K (.ref st.length 0) (st ++ [.iter i clk [] clk])) : OpS P N rd o en mk st K := by
  refine ops_run (by simp [ho]) (fun w ρ D a hW hE => ?_)
  have hyv := hE.opA (a := a) y
  rw [hy] at hyv
  obtain ⟨b, hyv, k1, k2, k3, k4, k5⟩ := mp_val (c := ⟨w, ρ, D, st⟩) hW hst hyv
  have hl : ρ.length = st.length := hW.len
  have hil : i < st.length := (List.getElem?_eq_some_iff.1 hst).1
  have hU := WR.push (c := ⟨w, ρ, D, st⟩) hW (Grew.alloc w (.mapIter (some b) clk #[] clk)) (.pointer (some ⟨w.heap.size, 0, none⟩)) (.iter i clk [] clk) (fun b hb _ _ => by simp [hblk] at hb; subst hb; simp) (fun c' e1 e2 e3 e4 hx => by
    refine ⟨by rw [e3]; simp; omega, w.heap.size, b, ?_, ?_, by rw [e1]; exact World.alloc_heap_new _ _⟩
    · rw [e3, ← hl]; simp
    · rw [e3, List.getElem?_append_left (by simp; omega)]; exact k1)
  refine ⟨.pointer (some ⟨w.heap.size, 0, none⟩), _, _, _, _, _, .inl ?_, hU.1, .ref ?_, hU.2, hK⟩
  · have : (Instr.range t (a.eval y)).run P w = .ok (.pointer (some ⟨w.heap.size, 0, none⟩)) (w.alloc (.mapIter (some b) clk #[] clk)) := by
      unfold Instr.range
      rw [hyv]
      simp [Sem.run_bind, run_under hu, rgm k2]
    simp [execOp, ho, Sem.run_bind, this]
  · simp [← hl]

theorem ops_next {y : Operand} {i m since last clk : Nat} {seen : List Nat} {ents : List MapEntry} (ho : o.op = .next y false) (hy : opA en y = .ref i 0) (hst : st[i]? = some (.iter m since seen last)) (hm : st[m]? = some (.map clk ents))
    (h1 : ∀ e ∈ ents, e.born < since) (h2 : since ≤ last)
    (hK0 : ents.filter (fun e => !seen.contains e.born) = [] → K (.tup [.sc (.bool false)]) st)
    (hK1 : ∀ e ∈ ents.filter (fun e => !seen.contains e.born), K (.tup [.sc (.bool true), constA e.key, constA e.val]) (st.set i (.iter m since (seen ++ [e.born]) clk))) : OpS P N rd o en mk st K := by
  refine ops_run (by simp [ho]) (fun w ρ D a hW hE => ?_)
  have hyv := hE.opA (a := a) y
  rw [hy] at hyv
  obtain ⟨k0, b, bm, k1, k2, k3⟩ := hW.obj i _ hst
  obtain ⟨bm', q1, q2, q3, q4, q5⟩ := hW.obj m _ hm
  have hbm : bm' = bm := by rw [k2] at q1; injection q1 with q1; injection q1 with q1; injection q1 with q1; exact q1.symm
  subst hbm
  have hyv : a.eval y = .pointer (some ⟨b, 0, none⟩) := by
    generalize a.eval y = v at hyv
    cases hyv with
    | @ref _ _ b' hb =>
      rw [k1] at hb; injection hb with hb; injection hb with hb; injection hb with hb; injection hb with hb; subst hb; rfl
  have hlf : (leftOf ents.toArray seen.toArray).toList = ents.filter (fun e => !seen.contains e.born) := by simp [leftOf]
  have hex : ∀ v w', (Instr.next (a.eval y) false o.type).run P w = .ok v w' → (execOp a.eval o).run P w = .ok (.value v) w' := fun v w' h => by
    simp [execOp, ho, Sem.run_bind, h]
  rcases run_next_at (P := P) w o.type b bm' since last seen.toArray ents.toArray clk k3 q2 (by simpa using h1) h2 with ⟨r1, r2⟩ | ⟨e, he, w1, hw1, r2⟩
  · refine ⟨_, _, w, ρ, D, st, .inl (hex _ _ (by rw [hyv]; exact r2)), hW, .tup (cs := [.sc (.bool false)]) rfl (fun i x v hx hv => ?_), .refl _, hK0 (List.eq_nil_of_length_eq_zero (by rw [← hlf]; simpa using r1))⟩
    match i, hx, hv with
    | 0, hx, hv => simp at hx hv; subst hx; subst hv; exact .sc rfl
  · rw [hlf] at he
    have hown : Owns ⟨w, ρ, D, st⟩ i b := ⟨_, _, hst, rfl, k1, rfl, fun _ _ _ h => by cases h⟩
    have hset : ρ.set i (.pointer (some ⟨b, 0, none⟩)) = ρ := by
      apply List.ext_getElem?; intro k
      rw [List.getElem?_set]
      split
      · rename_i h; subst h; simp only at k1; rw [k1]; simp [(List.getElem?_eq_some_iff.1 k1).1]
      · rfl
    have hw1' : w1.os = w.os ∧ w1.tape = w.tape ∧ w1.output = w.output ∧ w1.heap = w.heap := by rcases hw1 with rfl | rfl <;> exact ⟨rfl, rfl, rfl, rfl⟩
    have hbl : b < w1.heap.size := by rw [hw1'.2.2.2]; exact hW.lt i b hown
    have hU := WR.upd (c := ⟨w, ρ, D, st⟩) hW (w' := w1.putObj b (.mapIter (some bm') since (seen.toArray.push e.born) clk)) (h := .pointer (some ⟨b, 0, none⟩)) (o := .iter m since (seen ++ [e.born]) clk) hst k1
      ⟨hw1'.1, hw1'.2.1, hw1'.2.2.1⟩ (by simp [hw1'.2.2.2]) (fun k hk hnk => by rw [World.putObj_heap_other (r := b) (fun e : k = b => hnk (by rw [e]; exact hown)), hw1'.2.2.2]) (.inl rfl) (fun _ _ _ h => by cases h) (fun b' hb _ _ => .inl (by simp [hblk] at hb; exact hb ▸ hown))
      (fun c' e1 e2 e3 e4 hx => ⟨by rw [e3, hset]; exact k0, b, bm', by rw [e3, hset]; exact k1, by rw [e3, hset]; exact k2, by rw [e1, World.putObj_heap_same hbl]; simp⟩)
    rw [hset] at hU
    refine ⟨_, _, _, _, _, _, .inl (hex _ _ (by rw [hyv]; exact r2)), hU.1, .tup (cs := [.sc (.bool true), constA e.key, constA e.val]) rfl (fun i x v hx hv => ?_), hU.2, hK1 e he⟩
    match i, hx, hv with
    | 0, hx, hv => simp at hx hv; subst hx; subst hv; exact .sc rfl
    | 1, hx, hv => simp at hx hv; subst hx; subst hv; exact .constA _
    | 2, hx, hv => simp at hx hv; subst hx; subst hv; exact .constA _

end
end Go.AW

/-
  AW, part 14b: slices under construction, written in place.
-/
namespace Go.AW
open Go Go.RowKit
set_option linter.unusedVariables false
set_option linter.unusedSimpArgs false

section
variable {P : Program} {N : Nat} {rd : Option Nat} {o : Oper} {en : Env} {mk : List Nat} {st : List AO} {K : AV → List AO → Prop} {c : Cx} {a : Act}

theorem set_self {α : Type} {l : List α} {i : Nat} {x : α} (h : l[i]? = some x) : l.set i x = l := by
  apply List.ext_getElem?; intro k
  rw [List.getElem?_set]
  split
  · rename_i e; subst e; rw [h]; simp [(List.getElem?_eq_some_iff.1 h).1]
  · rfl

/-- The row of a slice under construction. -/
structure RowAt (c : Cx) (g e sz n bk cap : Nat) (cur : Array Value) : Prop where
  ρ : c.ρ[g]? = some (.slice (some ⟨bk, 0, none⟩) n cap)
  c0 : cap ≠ 0
  heap : c.w.heap[bk]? = some (.cells cur e (0, 0))
  le : n ≤ cap
  max : cap ≤ maxLen
  size : cur.size = cap * sz

/-- It is written: as many elements as before. -/
theorem acc_write (hW : WR c) {g e sz bk cap : Nat} {cur row : Array Value} {xs xs' : List AV} (hst : c.st[g]? = some (.acc e sz xs)) (hr : RowAt c g e sz xs.length bk cap cur)
    (hrs : row.size = cur.size) (hl : xs'.length = xs.length) (hp : ∀ x ∈ xs', x.pure1 = true) (hs : ∀ x ∈ xs', x.cells.length = sz)
    (hv : ∀ (j : Nat) x u, (flat xs')[j]? = some x → row[j]? = some u → u.oneCell' = true ∧ VR c x u) :
    WR ⟨c.w.setRow bk row, c.ρ, c.D, c.st.set g (.acc e sz xs')⟩ ∧ Ext c ⟨c.w.setRow bk row, c.ρ, c.D, c.st.set g (.acc e sz xs')⟩ := by
  obtain ⟨k1, k2, k3, _⟩ := hW.obj g _ hst
  have hown : Owns c g bk := ⟨_, _, hst, rfl, hr.ρ, rfl, fun _ _ _ _ a n cp he => by injection he with _ _ h3; rw [← h3]; exact hr.c0⟩
  have hset := set_self hr.ρ
  have hfl : (flat xs').length = xs.length * sz := by rw [flat_len hs, hl]
  have hle : xs.length * sz ≤ row.size := by rw [hrs, hr.size]; exact Nat.mul_le_mul_right _ hr.le
  have hU := WR.upd (c := c) hW (w' := c.w.setRow bk row) (h := .slice (some ⟨bk, 0, none⟩) xs.length cap) (o := .acc e sz xs') hst hr.ρ ⟨rfl, rfl, rfl⟩ (by simp)
    (fun k hk hnk => setRow_other c.w bk k row (fun e => hnk (e ▸ hown))) (.inl rfl)
    (fun e1 sz1 xs1 he => by injection he with h1 h2 h3; subst h1; subst h2; subst h3; exact ⟨xs, rfl, by omega, fun _ => rfl⟩)
    (fun b hb _ _ => .inl (by simp [hblk] at hb; exact hb ▸ hown))
    (fun c' e1 e2 e3 e4 hx => by
      refine rowOR (vals := row.toList.take (xs.length * sz)) k1.1 (by omega) hp hs (v := .slice (some ⟨bk, 0, none⟩) xs.length cap) (by rw [e3, hset]; exact hr.ρ) ?_ (fun u hu => ?_) (fun j x u hx' hu => ?_)
      · rw [e1, hl]
        exact ⟨by simp; omega, bk, cap, row, rfl, hr.c0, setRow_heap c.w bk cur row e (0, 0) hr.heap, hr.le, hr.max, by rw [hrs, hr.size], rfl⟩
      · obtain ⟨j, hj, rfl⟩ := List.getElem_of_mem hu
        have hj' : j < xs.length * sz := by simp at hj; omega
        have hjx : j < (flat xs').length := by omega
        have := hv j _ ((row.toList.take (xs.length * sz))[j]) (List.getElem?_eq_getElem hjx) (by simp)
        exact this.1
      · rw [List.getElem?_take] at hu
        split at hu
        · exact ((hv j x u hx' (by simpa only [Array.getElem?_toList] using hu)).2).mono hx
        · cases hu)
  rw [hset] at hU
  exact hU

/-- What lies in the row, element by element. -/
theorem acc_read (hW : WR c) {g e sz : Nat} {xs : List AV} (hst : c.st[g]? = some (.acc e sz xs)) (hne : xs ≠ []) :
    ∃ bk cap cur, RowAt c g e sz xs.length bk cap cur ∧ ∀ (j : Nat) x, (flat xs)[j]? = some x → ∃ u, cur[j]? = some u ∧ u.oneCell' = true ∧ VR c x u := by
  obtain ⟨k1, k2, k3, v0, vals, k4, k5, k6, k7, k8⟩ := hW.obj g _ hst
  rcases k5 with ⟨a', hv, rfl, rfl⟩ | ⟨hl, bk, cap, cur, hv, hc0, hheap, hnc, hcm, hcur, htk⟩
  · exact absurd rfl hne
  · subst hv
    refine ⟨bk, cap, cur, ⟨k4, hc0, hheap, hnc, hcm, hcur⟩, fun j x hx => ?_⟩
    have hjl : j < vals.length := by rw [k6]; exact (List.getElem?_eq_some_iff.1 hx).1
    have hu : vals[j]? = some vals[j] := List.getElem?_eq_getElem hjl
    refine ⟨vals[j], ?_, k7 _ (List.getElem_mem _), k8 j x _ hx hu⟩
    generalize vals[j] = u at hu
    rw [← htk, List.getElem?_take] at hu
    split at hu
    · simpa only [Array.getElem?_toList] using hu
    · cases hu

/-- A part of an element, stored. -/
def setE (el : AV) (off : Nat) (vs : List AV) : AV := match el with
  | .agg cs => .agg (putAt cs off (vs.map AV.nrmC))
  | _ => (vs.map AV.nrmC).headD .any

theorem putAt_get {cs vs : List AV} {off k : Nat} (h : off + vs.length ≤ cs.length) : (putAt cs off vs)[k]? = if off ≤ k ∧ k < off + vs.length then vs[k - off]? else cs[k]? := by
  have ht : (cs.take off).length = off := by simp; omega
  unfold putAt
  by_cases h1 : k < off
  · rw [List.append_assoc, List.getElem?_append_left (by omega), if_neg (by omega), List.getElem?_take, if_pos h1]
  · by_cases h2 : k < off + vs.length
    · rw [if_pos (by omega), List.append_assoc, List.getElem?_append_right (by omega), ht, List.getElem?_append_left (by omega)]
    · rw [if_neg (by omega), List.getElem?_append_right (by simp; omega), List.getElem?_drop]
      congr 1; simp; omega

theorem setE_cells {el : AV} {off : Nat} {vs cs : List AV} (hc : el.cells? = some cs) (hv : vs ≠ []) (h : off + vs.length ≤ cs.length) (hf : ∀ x ∈ vs, x.nrmC.flatOk = true) :
    (setE el off vs).cells = putAt cs off (vs.map AV.nrmC) ∧ (setE el off vs).cells.length = cs.length ∧ (el.pure1 = true → (setE el off vs).pure1 = true) := by
  have hpl : (putAt cs off (vs.map AV.nrmC)).length = cs.length := by unfold putAt; simp; omega
  cases el with
  | agg cs' =>
    simp only [AV.cells?, Option.some.injEq] at hc; subst hc
    refine ⟨rfl, hpl, fun hp => ?_⟩
    simp only [setE, AV.pure1, List.all_eq_true] at hp ⊢
    intro x hx
    unfold putAt at hx
    rcases List.mem_append.1 hx with hx | hx
    · rcases List.mem_append.1 hx with hx | hx
      · exact hp x (List.mem_of_mem_take hx)
      · obtain ⟨y, hy, rfl⟩ := List.mem_map.1 hx
        exact hf y hy
    · exact hp x (List.mem_of_mem_drop hx)
  | any => simp [AV.cells?] at hc
  | tup _ => simp [AV.cells?] at hc
  | _ =>
    simp only [AV.cells?, Option.some.injEq] at hc; subst hc
    match vs, hv, h, hf with
    | [v], _, h, hf =>
      have h0 : off = 0 := by simp at h; exact h
      subst h0
      have hfv := hf v (by simp)
      have hcell : v.nrmC.cells = [v.nrmC] := by cases hq : v.nrmC <;> rw [hq] at hfv <;> first | rfl | simp [AV.flatOk] at hfv
      refine ⟨by simp [setE, putAt, hcell], by simp [setE, hcell], fun _ => ?_⟩
      simp only [setE, List.map_cons, List.map_nil, List.headD_cons]
      cases hq : v.nrmC <;> rw [hq] at hfv <;> first | rfl | simp [AV.flatOk] at hfv
    | v :: v' :: r, _, h, _ => (simp at h; omega)

theorem flat_set {sz : Nat} {xs : List AV} {j : Nat} {el' : AV} (h0 : 0 < sz) (hs : ∀ x ∈ xs, x.cells.length = sz) (he : el'.cells.length = sz) (k : Nat) (x : AV) (hx : (flat (xs.set j el'))[k]? = some x) :
    (k / sz = j → j < xs.length ∧ el'.cells[k % sz]? = some x) ∧ (k / sz ≠ j → (flat xs)[k]? = some x) := by
  have hs' : ∀ y ∈ xs.set j el', y.cells.length = sz := fun y hy => by
    rcases List.mem_or_eq_of_mem_set hy with h | h
    · exact hs y h
    · rw [h]; exact he
  have hk : k < (xs.set j el').length * sz := by rw [← flat_len hs']; exact (List.getElem?_eq_some_iff.1 hx).1
  have hq : k / sz < xs.length := by rw [Nat.div_lt_iff_lt_mul h0]; simpa using hk
  have hr : k % sz < sz := Nat.mod_lt _ h0
  have hkk : k / sz * sz + k % sz = k := by rw [Nat.mul_comm]; exact Nat.div_add_mod k sz
  have e1 : (xs.set j el')[k / sz]? = some (if j = k / sz then el' else xs[k / sz]) := by
    rw [List.getElem?_set]
    split
    · simp [*]
    · exact List.getElem?_eq_getElem hq
  have g1 := flat_get hs' e1 hr
  have g2 := flat_get hs (List.getElem?_eq_getElem hq) hr
  rw [hkk] at g1 g2
  rw [hx] at g1
  constructor
  · intro e
    rw [if_pos e.symm] at g1
    exact ⟨by omega, g1.symm⟩
  · intro e
    rw [if_neg (fun h => e h.symm)] at g1
    rw [g2]; exact g1.symm

/-- Which element of which slice under construction does a slice's element name? -/
def elemA (st : List AO) (sz i : Nat) : AV → Option (Nat × Nat)
  | .acc g n => match st[g]? with
    | some (.acc _ sz' xs) => if n = xs.length ∧ sz' = sz then some (g, i) else none
    | _ => none
  | .av g M sz1 lo n => match st[g]? with
    | some (.acc _ sz' xs) => if M = xs.length ∧ sz' = sz ∧ sz1 = sz ∧ lo + n ≤ M then some (g, lo + i) else none
    | _ => none
  | _ => none

theorem elem_ok (hW : WR c) {s : AV} {sz i g j n cp : Nat} {ad : Addr} (hs : VR c s (.slice (some ad) n cp)) (hi : i < n) (h : elemA c.st sz i s = some (g, j)) :
    ∃ e xs bk cap cur, c.st[g]? = some (.acc e sz xs) ∧ j < xs.length ∧ RowAt c g e sz xs.length bk cap cur ∧ ad.block = bk ∧ ad.off + i * sz = j * sz := by
  cases hs with
  | any => simp [elemA] at h
  | sc => simp [elemA] at h
  | sl => simp [elemA] at h
  | acc hg ha hm hc hh =>
    simp only [elemA] at h
    split at h
    case h_2 => cases h
    rename_i e sz' xs hst
    split at h
    case isFalse => cases h
    rename_i hn
    obtain ⟨hn, rfl⟩ := hn
    injection h with h; injection h with h1 h2; subst h1; subst h2
    have hne : xs ≠ [] := by rintro rfl; simp at hn; omega
    obtain ⟨bk, cap, cur, hr, _⟩ := acc_read hW hst hne
    have := (hh e sz' xs hst).2 hn.symm
    rw [hr.ρ] at this
    injection this with this; injection this with t1 t2 t3
    injection t1 with t1; subst t1
    exact ⟨e, xs, bk, cap, cur, hst, by omega, hr, rfl, by simp⟩
  | @av g' M sz1 lo n' _ hg hm hsv hh =>
    simp only [elemA] at h
    split at h
    case h_2 => cases h
    rename_i e sz' xs hst
    split at h
    case isFalse => cases h
    rename_i hn
    obtain ⟨rfl, rfl, rfl, hle⟩ := hn
    injection h with h; injection h with h1 h2; subst h1; subst h2
    obtain ⟨a1, cp1, hv1, h1, _⟩ := hsv
    injection hv1 with q1 q2 q3
    subst q1; subst q2; subst q3
    have hne : xs ≠ [] := by rintro rfl; simp at hle; omega
    obtain ⟨bk, cap, cur, hr, _⟩ := acc_read hW hst hne
    obtain ⟨l1, l2, l3⟩ := hh e xs hst
    obtain ⟨b, cpb, l4, a', l5, l6⟩ := l3 rfl
    rw [hr.ρ] at l4
    injection l4 with l4; injection l4 with t1 t2 t3; subst t1; subst t3
    injection l5 with l5 _ l7; subst l5
    obtain ⟨ad', hb, l8⟩ := l6 (by omega)
    injection hb with hb; subst hb
    injection l8 with l8; subst l8
    exact ⟨e, xs, bk, cap, cur, hst, by omega, hr, rfl, by simp [Nat.add_mul]⟩

/-- A store into an element of a slice under construction. -/
theorem ops_store_ep {t : TypeId} {y z : Operand} {ti : TypeInfo} {s : AV} {sz i off g j e : Nat} {xs vs cs : List AV} {el : AV} (ho : o.op = .store t y z) (hi : P.info? t = some ti)
    (hy : opA en y = .ep s sz i off) (hg : elemA st sz i s = some (g, j)) (hst : st[g]? = some (.acc e sz xs)) (hel : xs[j]? = some el) (hcs : el.cells? = some cs)
    (hz : (opA en z).cells? = some vs) (hn : vs.length = ti.size) (hv0 : vs ≠ []) (hle : off + ti.size ≤ cs.length) (hf : ∀ x ∈ vs, x.nrmC.flatOk = true)
    (hK : K .any (st.set g (.acc e sz (xs.set j (setE el off vs))))) : OpS P N rd o en mk st K := by
  refine ops_run (by simp [ho]) (fun w ρ D a hW hE => ?_)
  have hyv := hE.opA (a := a) y
  rw [hy] at hyv
  obtain ⟨z1, z2, z3⟩ := (hE.opA (a := a) z).cells hz
  generalize hye : a.eval y = v at hyv
  cases hyv with
  | @ep _ _ _ _ n cp ad hs hin =>
    obtain ⟨e', xs', bk, cap, cur, q1, q2, q3, q4, q5⟩ := elem_ok (c := ⟨w, ρ, D, st⟩) hW hs hin hg
    simp only at q1
    rw [hst] at q1
    injection q1 with q1; injection q1 with q1 _ q1'; subst q1; subst q1'
    obtain ⟨k1, k2, k3, _⟩ := hW.obj g _ hst
    have hne : xs ≠ [] := by rintro rfl; simp at q2
    obtain ⟨bk', cap', cur', r1, r2⟩ := acc_read (c := ⟨w, ρ, D, st⟩) hW hst hne
    have hbk : bk' = bk := by have h1 := r1.ρ; have h2 := q3.ρ; rw [h1] at h2; simp at h2; exact h2.1
    subst hbk
    have hcc : cap' = cap := by have h1 := r1.ρ; have h2 := q3.ρ; rw [h1] at h2; simp at h2; exact h2
    subst hcc
    have hcur : cur' = cur := by have h1 := r1.heap; have h2 := q3.heap; rw [h1] at h2; simp at h2; exact h2
    subst hcur
    have hec : el.cells = cs := cells_of hcs
    have hcl : cs.length = sz := by rw [← hec]; exact k3 el (List.mem_of_getElem? hel)
    obtain ⟨s1, s2, s3⟩ := setE_cells (off := off) hcs hv0 (by omega) hf
    have hjb : j * sz + sz ≤ cur'.size := by
      rw [r1.size]
      have := Nat.mul_le_mul_right sz (show j + 1 ≤ cap' by have := r1.le; omega)
      rw [Nat.add_mul, Nat.one_mul] at this; exact this
    have hstr := run_storeCells_at P bk' (j * sz + off) e (a.eval z).cells.toList 0 cur' w r1.heap (by simp; omega) (fun v hv => z2 v (by simpa using hv))
    simp only [Nat.add_zero] at hstr
    let row : Array Value := (cur'.toList.take (j * sz + off) ++ (a.eval z).cells.toList ++ cur'.toList.drop (j * sz + off + (a.eval z).cells.toList.length)).toArray
    have hrow : ∀ k, row[k]? = if j * sz + off ≤ k ∧ k < j * sz + off + vs.length then (a.eval z).cells[k - (j * sz + off)]? else cur'[k]? := by
      intro k
      have ht : (cur'.toList.take (j * sz + off)).length = j * sz + off := by simp; omega
      show (cur'.toList.take (j * sz + off) ++ (a.eval z).cells.toList ++ cur'.toList.drop (j * sz + off + (a.eval z).cells.toList.length)).toArray[k]? = _
      rw [List.getElem?_toArray]
      have hzl : (a.eval z).cells.toList.length = vs.length := by simp; omega
      by_cases h1 : k < j * sz + off
      · rw [List.append_assoc, List.getElem?_append_left (by omega), if_neg (by omega), List.getElem?_take, if_pos h1, Array.getElem?_toList]
      · by_cases h2 : k < j * sz + off + vs.length
        · rw [if_pos (by omega), List.append_assoc, List.getElem?_append_right (by omega), ht, List.getElem?_append_left (by omega), Array.getElem?_toList]
        · rw [if_neg (by omega), List.getElem?_append_right (by simp; omega), List.getElem?_drop, ← Array.getElem?_toList]
          congr 1; simp; omega
    have hrs : row.size = cur'.size := by
      show (cur'.toList.take (j * sz + off) ++ (a.eval z).cells.toList ++ cur'.toList.drop (j * sz + off + (a.eval z).cells.toList.length)).toArray.size = _
      simp; omega
    have hps : (setE el off vs).cells.length = sz := by omega
    obtain ⟨u1, u2⟩ := acc_write (c := ⟨w, ρ, D, st⟩) hW (row := row) (xs' := xs.set j (setE el off vs)) hst r1 hrs (by simp) (fun x hx => by
        rcases List.mem_or_eq_of_mem_set hx with h | h
        · exact k2 x h
        · rw [h]; exact s3 (k2 el (List.mem_of_getElem? hel)))
      (fun x hx => by
        rcases List.mem_or_eq_of_mem_set hx with h | h
        · exact k3 x h
        · rw [h]; exact hps)
      (fun k x u hx hu => by
        obtain ⟨f1, f2⟩ := flat_set k1.1 k3 hps k x hx
        have hkk : k / sz * sz + k % sz = k := by rw [Nat.mul_comm]; exact Nat.div_add_mod k sz
        have hml : k % sz < sz := Nat.mod_lt _ k1.1
        rw [hrow] at hu
        by_cases hq : k / sz = j
        · obtain ⟨_, f1⟩ := f1 hq
          rw [hq] at hkk
          rw [s1, putAt_get (cs := cs) (vs := vs.map AV.nrmC) (off := off) (by simp; omega)] at f1
          simp only [List.length_map] at f1
          by_cases hc : off ≤ k % sz ∧ k % sz < off + vs.length
          · rw [if_pos hc] at f1
            rw [if_pos (by omega)] at hu
            rw [List.getElem?_map] at f1
            cases hvv : vs[k % sz - off]? with
            | none => rw [hvv] at f1; cases f1
            | some v0 =>
              rw [hvv] at f1
              injection f1 with f1; subst f1
              have hu' : (a.eval z).cells[k % sz - off]? = some u := by rw [← hu]; congr 1; omega
              exact ⟨z2 u (Array.mem_of_getElem? hu'), (z3 _ v0 u hvv hu').nrmC⟩
          · rw [if_neg hc] at f1
            rw [if_neg (by omega)] at hu
            have hfx : (flat xs)[k]? = some x := by
              have := flat_get k3 hel hml
              rw [hkk, hec] at this
              rw [this]; exact f1
            obtain ⟨u', p1, p2, p3⟩ := r2 k x hfx
            rw [hu] at p1; injection p1 with p1; subst p1
            exact ⟨p2, p3⟩
        · have hfx := f2 hq
          have hout : ¬ (j * sz + off ≤ k ∧ k < j * sz + off + vs.length) := by
            rintro ⟨h1, h2⟩
            have : k / sz = j := by
              have h3 : k < (j + 1) * sz := by rw [Nat.add_mul, Nat.one_mul]; omega
              have h4 : j * sz ≤ k := by omega
              exact Nat.div_eq_of_lt_le (by rw [Nat.mul_comm] at h4 ⊢; simpa [Nat.mul_comm] using h4) (by simpa [Nat.mul_comm] using h3)
            exact hq this
          rw [if_neg hout] at hu
          obtain ⟨u', p1, p2, p3⟩ := r2 k x hfx
          rw [hu] at p1; injection p1 with p1; subst p1
          exact ⟨p2, p3⟩)
    refine ⟨undef, .any, w.setRow bk' row, _, _, _, .inr ⟨?_, rfl⟩, u1, .any, u2, hK⟩
    have hadr : (⟨ad.block, ad.off + (i * sz + off), none⟩ : Addr) = ⟨bk', j * sz + off, none⟩ := by rw [q4, ← q5]; congr 1; omega
    have : (Instr.storeAt t (a.eval y) (a.eval z)).run P w = .ok () (w.setRow bk' row) := by
      rw [hye, hadr]
      simp only [Instr.storeAt, Instr.sureAddr, Sem.run_bind, Sem.run_pure, Result.andThen_ok, storeVar, run_size hi]
      rw [if_neg (by omega)]
      exact hstr
    simp [execOp, ho, Sem.run_bind, this]

end
end Go.AW

/-
  AW, part 14c: append and clear in place.
-/
namespace Go.AW
open Go Go.RowKit
set_option linter.unusedVariables false
set_option linter.unusedSimpArgs false

section
variable {P : Program} {N : Nat} {rd : Option Nat} {o : Oper} {en : Env} {mk : List Nat} {st : List AO} {K : AV → List AO → Prop} {c : Cx} {a : Act}

/-- Some elements, one behind the other, written anew. -/
theorem acc_splice (hW : WR c) {g e sz bk cap lo : Nat} {cur : Array Value} {xs ys : List AV} {news : List Value} (hst : c.st[g]? = some (.acc e sz xs)) (hr : RowAt c g e sz xs.length bk cap cur)
    (hle : lo + ys.length ≤ xs.length) (hp : ∀ x ∈ ys, x.pure1 = true) (hs : ∀ x ∈ ys, x.cells.length = sz) (hnl : news.length = ys.length * sz) (h1 : ∀ u ∈ news, u.oneCell' = true)
    (hv : ∀ (j : Nat) x u, (flat ys)[j]? = some x → news[j]? = some u → VR c x u) :
    WR ⟨c.w.setRow bk (cur.toList.take (lo * sz) ++ news ++ cur.toList.drop (lo * sz + news.length)).toArray, c.ρ, c.D, c.st.set g (.acc e sz (xs.take lo ++ ys ++ xs.drop (lo + ys.length)))⟩ ∧
    Ext c ⟨c.w.setRow bk (cur.toList.take (lo * sz) ++ news ++ cur.toList.drop (lo * sz + news.length)).toArray, c.ρ, c.D, c.st.set g (.acc e sz (xs.take lo ++ ys ++ xs.drop (lo + ys.length)))⟩ := by
  obtain ⟨k1, k2, k3, _⟩ := hW.obj g _ hst
  have hcz : (lo + ys.length) * sz ≤ cur.size := by rw [hr.size]; exact Nat.mul_le_mul_right _ (by have := hr.le; omega)
  rw [Nat.add_mul] at hcz
  have hfx : (flat xs).length = xs.length * sz := flat_len k3
  have hfy : (flat ys).length = ys.length * sz := flat_len hs
  have hxl : (lo + ys.length) * sz ≤ xs.length * sz := Nat.mul_le_mul_right _ hle
  rw [Nat.add_mul] at hxl
  refine acc_write hW hst hr (by simp; omega) (by simp; omega) (fun x hx => ?_) (fun x hx => ?_) (fun k x u hx hu => ?_)
  · rcases List.mem_append.1 hx with hx | hx
    · rcases List.mem_append.1 hx with hx | hx
      · exact k2 x (List.mem_of_mem_take hx)
      · exact hp x hx
    · exact k2 x (List.mem_of_mem_drop hx)
  · rcases List.mem_append.1 hx with hx | hx
    · rcases List.mem_append.1 hx with hx | hx
      · exact k3 x (List.mem_of_mem_take hx)
      · exact hs x hx
    · exact k3 x (List.mem_of_mem_drop hx)
  · rw [flat_append, flat_append, flat_take k3, flat_drop k3, Nat.add_mul] at hx
    rw [List.getElem?_toArray] at hu
    have hread : ∀ j y w, (flat xs)[j]? = some y → cur[j]? = some w → w.oneCell' = true ∧ VR c y w := fun j y w hy hw => by
      have hne : xs ≠ [] := fun h => by
        have := (List.getElem?_eq_some_iff.1 hy).1
        rw [h] at this; simp [flat] at this
      obtain ⟨bk', cap', cur', r1, r2⟩ := acc_read hW hst hne
      have hbk : bk' = bk := by have h1 := r1.ρ; have h2 := hr.ρ; rw [h1] at h2; simp at h2; exact h2.1
      subst hbk
      have hcur : cur' = cur := by have h1 := r1.heap; have h2 := hr.heap; rw [h1] at h2; simp at h2; exact h2
      subst hcur
      obtain ⟨u', p1, p2, p3⟩ := r2 j y hy
      rw [hw] at p1; injection p1 with p1; subst p1
      exact ⟨p2, p3⟩
    have ht1 : ((flat xs).take (lo * sz)).length = lo * sz := by simp; omega
    have ht2 : (cur.toList.take (lo * sz)).length = lo * sz := by simp; omega
    by_cases c1 : k < lo * sz
    · rw [List.append_assoc, List.getElem?_append_left (by omega), List.getElem?_take, if_pos c1] at hx
      rw [List.append_assoc, List.getElem?_append_left (by omega), List.getElem?_take, if_pos c1, Array.getElem?_toList] at hu
      exact hread k x u hx hu
    · by_cases c2 : k < lo * sz + ys.length * sz
      · rw [List.append_assoc, List.getElem?_append_right (by omega), ht1, List.getElem?_append_left (by omega)] at hx
        rw [List.append_assoc, List.getElem?_append_right (by omega), ht2, List.getElem?_append_left (by omega)] at hu
        exact ⟨h1 u (List.mem_of_getElem? hu), hv _ x u hx hu⟩
      · rw [List.getElem?_append_right (by simp; omega), List.getElem?_drop] at hx
        rw [List.getElem?_append_right (by simp; omega), List.getElem?_drop, Array.getElem?_toList] at hu
        simp only [List.length_append, ht1, ht2, hfy, hnl] at hx hu
        rw [show lo * sz + ys.length * sz + (k - (lo * sz + ys.length * sz)) = k by omega] at hx hu
        exact hread k x u hx hu

/-- What a slice is a view of. -/
def viewA (st : List AO) (sz : Nat) : AV → Option (Nat × Nat × Nat)
  | .acc g n => match st[g]? with
    | some (.acc _ sz' xs) => if n = xs.length ∧ sz' = sz then some (g, 0, n) else none
    | _ => none
  | .av g M sz1 lo n => match st[g]? with
    | some (.acc _ sz' xs) => if M = xs.length ∧ sz' = sz ∧ sz1 = sz ∧ lo + n ≤ M then some (g, lo, n) else none
    | _ => none
  | _ => none

theorem view_ok (hW : WR c) {s : AV} {sz g lo n : Nat} {v : Value} (hs : VR c s v) (h : viewA c.st sz s = some (g, lo, n)) :
    ∃ e xs, c.st[g]? = some (.acc e sz xs) ∧ lo + n ≤ xs.length ∧ slen s = some n ∧ VR c (.av g xs.length sz lo n) v := by
  cases s with
  | acc g' n' =>
    simp only [viewA] at h
    split at h
    case h_2 => cases h
    rename_i e sz' xs hst
    split at h
    case isFalse => cases h
    rename_i hn
    obtain ⟨hn, rfl⟩ := hn
    injection h with h; injection h with h1 h2; injection h2 with h2 h3; subst h1; subst h2; subst h3
    have := acc_av hW hst hn hs
    rw [hn] at this
    exact ⟨e, xs, hst, by omega, rfl, by rw [hn]; exact this⟩
  | av g' M sz1 lo' n' =>
    simp only [viewA] at h
    split at h
    case h_2 => cases h
    rename_i e sz' xs hst
    split at h
    case isFalse => cases h
    rename_i hn
    obtain ⟨rfl, rfl, rfl, hle⟩ := hn
    injection h with h; injection h with h1 h2; injection h2 with h2 h3; subst h1; subst h2; subst h3
    exact ⟨e, xs, hst, hle, rfl, hs⟩
  | _ => simp [viewA] at h

/-- The address of a view that is not empty. -/
theorem view_addr (hW : WR c) {g e sz lo n : Nat} {xs : List AV} {v : Value} (hst : c.st[g]? = some (.acc e sz xs)) (hv : VR c (.av g xs.length sz lo n) v) (hle : lo + n ≤ xs.length) (hn : 0 < n) :
    ∃ bk cap cur, RowAt c g e sz xs.length bk cap cur ∧ v = .slice (some ⟨bk, lo * sz, none⟩) n (cap - lo) := by
  have hne : xs ≠ [] := by rintro rfl; simp at hle; omega
  obtain ⟨bk, cap, cur, hr, _⟩ := acc_read hW hst hne
  cases hv with
  | av hg hm hs hh =>
    obtain ⟨l1, l2, l3⟩ := hh e xs hst
    obtain ⟨b, cpb, l4, a', l5, l6⟩ := l3 rfl
    rw [hr.ρ] at l4
    injection l4 with l4; injection l4 with t1 t2 t3; subst t1; subst t3
    have := hr.le
    obtain ⟨ad', hb, l8⟩ := l6 (by omega)
    injection hb with hb; subst hb
    exact ⟨bk, cap, cur, hr, by rw [l5, l8]; simp⟩

/-- **append**: onto a part of a slice under construction, over what lies behind it. -/
theorem ops_app_av {cl : Call} {x y : Operand} {e sz bytes g k M : Nat} {xs ys : List AV} (ho : o.op = .call cl) (hcal : cl.callee = .builtin .append) (hd : dec P o = .app e sz bytes x y)
    (hx : opA en x = .av g M sz 0 k) (hg : st[g]? = some (.acc e sz xs)) (hM : M = xs.length) (hy : rdA st (opA en y) = some ys) (hp : ∀ y ∈ ys, y.pure1 = true) (hs : ∀ y ∈ ys, y.cells.length = sz)
    (hle : k + ys.length ≤ M) (hK : K (.av g M sz 0 (k + ys.length)) (st.set g (.acc e sz (xs.take k ++ ys ++ xs.drop (k + ys.length))))) : OpS P N rd o en mk st K := by
  obtain ⟨t, i, z, hu, hi, hz, hsz0, hzs, rfl, rfl, hex⟩ := dec_app ho hcal hd
  subst hM
  refine ops_run (by simp [ho]) (fun w ρ D a hW hE => ?_)
  have hxv := hE.opA (a := a) x
  rw [hx] at hxv
  have hyv := hE.opA (a := a) y
  obtain ⟨ay, cy, hye, _, hay⟩ := rd_slice (c := ⟨w, ρ, D, st⟩) hyv hy
  rw [hye] at hyv
  obtain ⟨_, news, n1, n2, n3, n4⟩ := rd_vals (c := ⟨w, ρ, D, st⟩) hW hyv hy hs
  by_cases hm0 : ys.length = 0
  · have hys : ys = [] := List.eq_nil_of_length_eq_zero hm0
    subst hys
    simp only [List.length_nil, Nat.add_zero, List.append_nil, List.take_append_drop, set_self hg] at hK
    have hxs := hxv
    cases hxs with
    | av _ _ hsv _ =>
      obtain ⟨a1, cp1, hv1, hle1, _⟩ := hsv
      refine ⟨a.eval x, _, w, ρ, D, st, .inl ?_, hW, hxv, .refl _, hK⟩
      rw [hex, Sem.run_bind, hv1, hye]
      simp only [List.length_nil]
      rw [app_none hu hi hle1 (by rw [hu]; simp)]
      rfl
  · have hmpos : 0 < ys.length := by omega
    have hne : xs ≠ [] := fun h => by rw [h] at hle; simp only [List.length_nil] at hle; omega
    obtain ⟨bk, cap, cur, hr, _⟩ := acc_read (c := ⟨w, ρ, D, st⟩) hW hg hne
    have hxe : a.eval x = .slice (some ⟨bk, 0, none⟩) k cap := by
      generalize a.eval x = v at hxv
      cases hxv with
      | av hgl hm hsv hh =>
        obtain ⟨l1, l2, l3⟩ := hh e xs hg
        obtain ⟨b, cpb, l4, a', l5, l6⟩ := l3 rfl
        have hrρ := hr.ρ
        simp only at l4 hrρ
        rw [hrρ] at l4
        injection l4 with l4; injection l4 with t1 t2 t3; subst t1; subst t3
        have := hr.c0
        obtain ⟨ad', hb, l8⟩ := l6 (by omega)
        injection hb with hb; subst hb
        rw [l5, l8]; simp
    cases ay with
    | none => have := hay rfl; omega
    | some ad =>
      have hroom : k + ys.length ≤ cap := by have := hr.le; omega
      have hfit : k * i.size + news.length ≤ cur.size := by
        rw [n1, hr.size, ← Nat.add_mul]; exact Nat.mul_le_mul_right _ hroom
      have hrun := run_append_room (P := P) (w := w) (ty := o.type) t e i hu hi bk k cap cur hr.heap ad ys.length cy news n1 (n4 ad rfl) n2 hroom hfit
      obtain ⟨q1, q2⟩ := acc_splice (c := ⟨w, ρ, D, st⟩) hW (lo := k) (news := news) hg hr (by omega) hp hs n1 n2 n3
      refine ⟨.slice (some ⟨bk, 0, none⟩) (k + ys.length) cap, _, _, _, _, _, .inl ?_, q1, ?_, q2, hK⟩
      · rw [hex, Sem.run_bind, hxe, hye, hrun]; rfl
      · have hgl : g < ρ.length := (List.getElem?_eq_some_iff.1 hr.ρ).1
        obtain ⟨⟨_, hxb⟩, _⟩ := hW.obj g _ hg
        refine .av hgl (by omega) ⟨_, _, rfl, hroom, hr.max, (fun h => by cases h), (fun ad h _ => by injection h with h; rw [← h])⟩ (fun e' xs' hx' => ?_)
        have hgs : g < st.length := (List.getElem?_eq_some_iff.1 hg).1
        simp [List.getElem?_set, hgs] at hx'
        obtain ⟨_, rfl⟩ := hx'
        refine ⟨by omega, by simp; omega, fun _ => ⟨some ⟨bk, 0, none⟩, cap, hr.ρ, some ⟨bk, 0, none⟩, rfl, fun _ => ⟨⟨bk, 0, none⟩, rfl, by simp⟩⟩⟩

theorem zeroCells_get {z : Array Value} {n k : Nat} (h : k < n * z.size) : (Builtin.zeroCells z n)[k]? = z[k % z.size]? := by
  have hz : 0 < z.size := by
    rcases Nat.eq_zero_or_pos z.size with h0 | h0
    · simp [h0] at h
    · exact h0
  have hm : k % z.size < z.size := Nat.mod_lt _ hz
  simp [Builtin.zeroCells, h, Array.getElem?_eq_getElem hm, hm]

/-- **clear**: of a view. -/
theorem ops_clear {cl : Call} {x : Operand} {t e sz g lo n : Nat} {i : TypeInfo} {z : Value} {xs cs : List AV} {e' : Nat} (ho : o.op = .call cl) (hcal : cl.callee = .builtin .clear) (hA : cl.args = #[x]) (hT : cl.argTypes = #[t])
    (hu : P.underlying t = some (.slice e)) (hi : P.info? e = some i) (hz : i.zero = some z) (hzs : z.cells.size = i.size) (hzc : (constA z).cells? = some cs) (hpz : (constA z).pure1 = true)
    (hx : viewA st i.size (opA en x) = some (g, lo, n)) (hg : st[g]? = some (.acc e' i.size xs))
    (hK : K .any (st.set g (.acc e' i.size (xs.take lo ++ List.replicate n (constA z) ++ xs.drop (lo + n))))) : OpS P N rd o en mk st K := by
  refine ops_run (by simp [ho]) (fun w ρ D a hW hE => ?_)
  have hxv := hE.opA (a := a) x
  obtain ⟨e1, xs1, q1, q2, q3, q4⟩ := view_ok (c := ⟨w, ρ, D, st⟩) hW hxv hx
  simp only at q1
  rw [hg] at q1
  injection q1 with q1; injection q1 with q1 _ q1'; subst q1; subst q1'
  have hex : ∀ v w', (Builtin.clear_ #[t] o.type #[a.eval x]).run P w = .ok v w' → (execOp a.eval o).run P w = .ok (.value v) w' := fun v w' h => by
    simp [execOp, ho, resolve, hcal, hA, hT, invoke, builtin, Sem.run_bind, h]
  have hzr : ∀ w : World, (zeroValue e).run P w = .ok z w := fun w => by simp [zeroValue, run_tinfo hi, Sem.run_bind, hz]
  obtain ⟨⟨hsz, _⟩, _⟩ := hW.obj g _ hg
  rcases Nat.eq_zero_or_pos n with h0 | h0
  · subst h0
    simp only [List.replicate_zero, List.append_nil, Nat.add_zero, List.take_append_drop, set_self hg] at hK
    obtain ⟨ad, cp, hv, _⟩ := hxv.slen_ok q3
    refine ⟨.tuple #[], .any, w, ρ, D, st, .inl (hex _ _ ?_), hW, .any, .refl _, hK⟩
    unfold Builtin.clear_
    rw [hv]
    cases ad <;> simp [Sem.run_bind, run_under hu]
  · obtain ⟨bk, cap, cur, hr, hv⟩ := view_addr (c := ⟨w, ρ, D, st⟩) hW hg q4 q2 h0
    obtain ⟨z1, z2, z3⟩ := (VR.constA (c := ⟨w, ρ, D, st⟩) z).cells hzc
    have hcc := cells_of hzc
    have hcl : cs.length = i.size := by omega
    have hnl : (Builtin.zeroCells z.cells n).toList.length = (List.replicate n (constA z)).length * i.size := by simp [size_zeroCells, hzs]
    have hrs : ∀ x ∈ List.replicate n (constA z), x.cells.length = i.size := fun x hx => by rw [List.eq_of_mem_replicate hx, hcc, hcl]
    obtain ⟨u1, u2⟩ := acc_splice (c := ⟨w, ρ, D, st⟩) hW (lo := lo) (ys := List.replicate n (constA z)) (news := (Builtin.zeroCells z.cells n).toList) hg hr (by simpa using q2)
      (fun x hx => by rw [List.eq_of_mem_replicate hx]; exact hpz) hrs hnl
      (fun u hu => by
        obtain ⟨k, hk, rfl⟩ := List.getElem_of_mem hu
        have hk' : k < n * z.cells.size := by simpa [size_zeroCells] using hk
        have := zeroCells_get hk'
        rw [Array.getElem?_eq_getElem (by simpa [size_zeroCells] using hk')] at this
        simp only [Array.getElem_toList]
        exact z2 _ (Array.mem_of_getElem? this.symm))
      (fun k x u hx hu => by
        have hk : k < n * i.size := by
          have := (List.getElem?_eq_some_iff.1 hx).1
          rw [flat_len hrs] at this; simpa using this
        have hq : k / i.size < n := by rw [Nat.div_lt_iff_lt_mul hsz]; exact hk
        have hml : k % i.size < i.size := Nat.mod_lt _ hsz
        have hkk : k / i.size * i.size + k % i.size = k := by rw [Nat.mul_comm]; exact Nat.div_add_mod k i.size
        have hgx := flat_get hrs (i := k / i.size) (e := constA z) (by rw [List.getElem?_replicate, if_pos hq]) hml
        rw [hkk, hx, hcc] at hgx
        rw [Array.getElem?_toList, zeroCells_get (by rw [hzs]; exact hk), hzs] at hu
        exact z3 _ x u hgx.symm hu)
    simp only [List.length_replicate] at u1 u2
    refine ⟨.tuple #[], .any, _, _, _, _, .inl (hex _ _ ?_), u1, .any, u2, hK⟩
    have hst := run_storeCells_at P bk (lo * i.size) e' (Builtin.zeroCells z.cells n).toList 0 cur w hr.heap (by
      simp only [Nat.add_zero]
      rw [hnl, List.length_replicate, hr.size, ← Nat.add_mul]; exact Nat.mul_le_mul_right _ (by have := hr.le; omega)) (fun u hu => by
        obtain ⟨k, hk, rfl⟩ := List.getElem_of_mem hu
        have hk' : k < n * z.cells.size := by simpa [size_zeroCells] using hk
        have := zeroCells_get hk'
        rw [Array.getElem?_eq_getElem (by simpa [size_zeroCells] using hk')] at this
        simp only [Array.getElem_toList]
        exact z2 _ (Array.mem_of_getElem? this.symm))
    simp only [Nat.add_zero] at hst
    unfold Builtin.clear_
    rw [hv]
    have hn0 : n ≠ 0 := by omega
    obtain ⟨n', rfl⟩ : ∃ n', n = n' + 1 := ⟨n - 1, by omega⟩
    simp [Sem.run_bind, run_under hu, hzr, hst]

end
end Go.AW

/-
  AW, part 14d: a slice under construction is frozen: it is never written again.
-/
namespace Go.AW
open Go Go.RowKit
set_option linter.unusedVariables false
set_option linter.unusedSimpArgs false

def AV.thawC (st : List AO) (g : Nat) : AV → AV
  | .acc g' n => if g' = g then match st[g]? with
    | some (.acc _ _ xs) => if n = xs.length then .sl false xs else .any
    | _ => .any else .acc g' n
  | .av g' N sz lo n => if g' = g then match n with
    | 0 => .sl false []
    | n + 1 => match st[g]? with
      | some (.acc _ sz' xs) => if N = xs.length ∧ sz' = sz then .sl false ((xs.drop lo).take (n + 1)) else .any
      | _ => .any else .av g' N sz lo n
  | x => x
def AV.thaw (st : List AO) (g : Nat) : AV → AV
  | .agg cs => .agg (cs.map (AV.thawC st g))
  | x => x.thawC st g

def Cx.thaw (c : Cx) (g : Nat) : Cx := ⟨c.w, c.ρ, fun b off => c.D b off ∨ (Owns c g b ∧ ∃ v, c.w.cell? ⟨b, off, none⟩ = some v), c.st.set g .dead⟩

theorem WR.thaw {c : Cx} (h : WR c) {g : Nat} : WR (c.thaw g) ∧ Ext c (c.thaw g) := by
  have stold : ∀ i, i ≠ g → (c.thaw g).st[i]? = c.st[i]? := fun i hi => List.getElem?_set_ne (Ne.symm hi)
  have own : ∀ {i b}, Owns (c.thaw g) i b → i ≠ g ∧ Owns c i b := by
    rintro i b ⟨o, v, h1, h2, h3, h4, h5⟩
    have hi : i ≠ g := by
      rintro rfl
      simp only [Cx.thaw, List.getElem?_set] at h1
      split at h1
      · split at h1
        · injection h1 with h1; subst h1; cases h2
        · cases h1
      · rename_i hh; exact hh trivial
    rw [stold i hi] at h1
    exact ⟨hi, o, v, h1, h2, h3, h4, h5⟩
  have hx : Ext c (c.thaw g) := ⟨rfl, rfl, rfl, Nat.le_refl _, fun _ _ h => .inl h, fun _ _ _ => rfl, Nat.le_refl _, fun _ _ h => .inl h, fun g' e sz xs hg' he => by
      have hi : g' ≠ g := by
        rintro rfl
        simp only [Cx.thaw, List.getElem?_set] at he
        split at he
        · split at he <;> cases he
        · rename_i hh; exact hh trivial
      rw [stold g' hi] at he
      exact ⟨xs, he, Nat.le_refl _, fun _ => rfl⟩, fun _ _ _ => rfl, fun i b hi _ => ⟨i, (own hi).2⟩, fun b off hd _ => by
      rcases hd with hd | hd
      · exact .inl hd
      · exact .inr ⟨g, hd.1⟩⟩
  refine ⟨⟨by simp [Cx.thaw, h.len], fun i o ho => ?_, fun i b hi => h.lt i b (own hi).2, fun i j b hi hj => h.sep i j b (own hi).2 (own hj).2, fun i b off hi hd => ?_, fun b off hd => ?_⟩, hx⟩
  · by_cases hi : i = g
    · subst hi
      simp only [Cx.thaw, List.getElem?_set] at ho
      split at ho
      · split at ho
        · injection ho with ho; subst ho; trivial
        · cases ho
      · rename_i hh; exact absurd trivial hh
    · rw [stold i hi] at ho
      exact OR.mono hx (h.obj i o ho) rfl (fun _ _ _ _ _ _ => rfl)
  · obtain ⟨hig, hi⟩ := own hi
    rcases hd with hd | ⟨hd, _⟩
    · exact h.dis i b off hi hd
    · exact hig (h.sep i g b hi hd)
  · rcases hd with hd | ⟨_, hd⟩
    · exact h.cell b off hd
    · exact hd

theorem VR.thawC {c : Cx} (h : WR c) {g : Nat} {x : AV} {v : Value} (hv : VR c x v) : VR (c.thaw g) (x.thawC c.st g) v := by
  have hx := (h.thaw (g := g)).2
  cases x with
  | acc g' n =>
    simp only [AV.thawC]
    split
    · rename_i hgg
      subst hgg
      split
      · rename_i e sz xs hg
        split
        · rename_i hn
          subst hn
          have hO := h.obj g' _ hg
          obtain ⟨k1, k2, k3, v0, vals, k4, k5, k6, k7, k8⟩ := hO
          cases hv with
          | @acc _ _ cp a hgl _ _ _ hacc =>
            obtain ⟨_, hh⟩ := hacc e sz xs hg
            have he := hh rfl
            rw [k4] at he
            injection he with he
            subst he
            have pm : ∀ (j : Nat) x u, (flat xs)[j]? = some x → vals[j]? = some u → VR (c.thaw g') x u := fun j x u hj hu => by
              refine VR.pureMono (c' := c.thaw g') (fun _ _ hd => .inl hd) (fun _ _ _ => rfl) (k8 j x u hj hu) ?_
              obtain ⟨y, hy, hxy⟩ := List.mem_flatMap.1 (List.mem_of_getElem? hj)
              have hy' := k2 y hy
              cases y <;> simp_all [AV.cells, AV.pure1, AV.flatOk]
              have := hy' x hxy
              cases x <;> simp_all [AV.flatOk, AV.pure1]
            rcases k5 with ⟨a', hv, rfl, rfl⟩ | hown
            · injection hv with h1 h2 h3
              subst h1; subst h3
              exact .sl 0 (fun _ => undef) rfl (Nat.le_refl _) (fun h => by cases h) (by unfold maxLen; omega) (by simp) (fun _ => rfl) (fun _ _ h => by simp at h) (fun _ h => by cases h) (fun _ h => by cases h)
                (fun _ _ _ _ h => by simp [flat] at h) (fun _ _ h => by simp [flat] at h) (fun _ _ h => by simp [flat] at h)
            · obtain ⟨hl, bk, cap, cur, hv, hcap0, hheap, hnc, hcm, hcur, htk⟩ := hown
              · injection hv with h1 h2 h3
                subst h1; subst h3
                have hcell : ∀ (j : Nat) x, (flat xs)[j]? = some x → ∃ u, vals[j]? = some u ∧ cur[j]? = some u := fun j x hj => by
                  have hjl : j < vals.length := by rw [k6]; exact (List.getElem?_eq_some_iff.1 hj).1
                  obtain ⟨u, hu⟩ : ∃ u, vals[j]? = some u := ⟨vals[j], List.getElem?_eq_getElem hjl⟩
                  refine ⟨u, hu, ?_⟩
                  rw [← htk, List.getElem?_take] at hu
                  split at hu
                  · simpa only [Array.getElem?_toList] using hu
                  · cases hu
                refine .sl sz (fun j => vals.getD j undef) rfl hnc (fun h => by cases h) hcm k1.2 (fun h => by cases h) (fun _ h _ => by injection h with h; rw [← h]) k2 k3 (fun ad j x ha hx => ?_) (fun j x hx => ?_) (fun j x hx => ?_)
                · injection ha with ha; subst ha
                  obtain ⟨u, hu, hc⟩ := hcell j x hx
                  have hcl : c.w.cell? ⟨bk, 0 + j, none⟩ = some u := by rw [Nat.zero_add, cell_of_row c.w bk j cur e (0, 0) hheap]; exact hc
                  refine ⟨rfl, Or.inr ⟨⟨_, _, hg, rfl, k4, rfl, fun _ _ _ _ a n cp hv => ?_⟩, u, hcl⟩, ?_⟩
                  · injection hv with _ _ h3
                    rw [← h3]
                    have : 0 < (flat xs).length := Nat.lt_of_le_of_lt (Nat.zero_le _) (List.getElem?_eq_some_iff.1 hx).1
                    have : 0 < xs.length := by
                      cases xs with
                      | nil => simp [flat] at this
                      | cons _ _ => simp
                    omega
                  · refine hcl.trans ?_; simp [List.getD_eq_getElem?_getD, hu]
                · obtain ⟨u, hu, _⟩ := hcell j x hx
                  simp only [List.getD_eq_getElem?_getD, hu, Option.getD_some]
                  exact k7 u (List.mem_of_getElem? hu)
                · obtain ⟨u, hu, _⟩ := hcell j x hx
                  simp only [List.getD_eq_getElem?_getD, hu, Option.getD_some]
                  exact pm j x u hx hu
        · exact .any
      · exact .any
    · exact hv.mono hx
  | av g' N sz' lo n =>
    simp only [AV.thawC]
    split
    · rename_i hgg
      subst hgg
      cases hv with
      | av hgl hmx hs hacc =>
        obtain ⟨a, cp, rfl, h1, h2, h3, h4⟩ := hs
        cases n with
        | zero =>
          exact .sl 0 (fun _ => undef) rfl (Nat.zero_le _) (fun h => by cases h) h2 (by omega) h3 (fun _ _ h => by omega) (fun _ h => by cases h) (fun _ h => by cases h)
            (fun _ _ _ _ h => by simp [flat] at h) (fun _ _ h => by simp [flat] at h) (fun _ _ h => by simp [flat] at h)
        | succ n =>
          simp only
          split
          · rename_i e sz xs hg
            split
            · rename_i hn
              obtain ⟨rfl, rfl⟩ := hn
              obtain ⟨k1, k2, k3, v0, vals, k4, k5, k6, k7, k8⟩ := h.obj g' _ hg
              obtain ⟨l1, l2, l3⟩ := hacc e xs hg
              obtain ⟨b, cpb, l4, a', l5, l6⟩ := l3 rfl
              rw [k4] at l4
              injection l4 with l4; subst l4
              injection l5 with l5 _ l7; subst l5
              obtain ⟨ad, rfl, l8⟩ := l6 (by omega)
              have pm : ∀ (j : Nat) x u, (flat xs)[j]? = some x → vals[j]? = some u → VR (c.thaw g') x u := fun j x u hj hu => by
                refine VR.pureMono (c' := c.thaw g') (fun _ _ hd => .inl hd) (fun _ _ _ => rfl) (k8 j x u hj hu) ?_
                obtain ⟨y, hy, hxy⟩ := List.mem_flatMap.1 (List.mem_of_getElem? hj)
                have hy' := k2 y hy
                cases y <;> simp_all [AV.cells, AV.pure1, AV.flatOk]
                have := hy' x hxy
                cases x <;> simp_all [AV.flatOk, AV.pure1]
              rcases k5 with ⟨a', hv, rfl, rfl⟩ | hown
              · simp at l1
              · obtain ⟨hl, bk, cap, cur, hv, hcap0, hheap, hnc, hcm, hcur, htk⟩ := hown
                injection hv with hv1 hv2 hv3
                injection hv1 with hv1; subst hv1; subst hv3; subst l8
                have hcell : ∀ (j : Nat) x, (flat xs)[j]? = some x → ∃ u, vals[j]? = some u ∧ cur[j]? = some u := fun j x hj => by
                  have hjl : j < vals.length := by rw [k6]; exact (List.getElem?_eq_some_iff.1 hj).1
                  obtain ⟨u, hu⟩ : ∃ u, vals[j]? = some u := ⟨vals[j], List.getElem?_eq_getElem hjl⟩
                  refine ⟨u, hu, ?_⟩
                  rw [← htk, List.getElem?_take] at hu
                  split at hu
                  · simpa only [Array.getElem?_toList] using hu
                  · cases hu
                have mem : ∀ x ∈ (xs.drop lo).take (n + 1), x ∈ xs := fun x hx => List.mem_of_mem_drop (List.mem_of_mem_take hx)
                refine .sl sz (fun j => vals.getD (lo * sz + j) undef) (by simp; omega) h1 (fun h => by cases h) h2 (by omega) (fun h => by cases h) (fun _ h _ => by injection h with h; rw [← h]) (fun x hx => k2 x (mem x hx)) (fun x hx => k3 x (mem x hx)) (fun ad j x ha hx => ?_) (fun j x hx => ?_) (fun j x hx => ?_)
                · injection ha with ha; subst ha
                  have hx' := flat_sub k3 hx
                  obtain ⟨u, hu, hc⟩ := hcell _ x hx'
                  have hcl : c.w.cell? ⟨bk, 0 + lo * sz + j, none⟩ = some u := by rw [Nat.zero_add, cell_of_row c.w bk _ cur e (0, 0) hheap]; exact hc
                  refine ⟨rfl, Or.inr ⟨⟨_, _, hg, rfl, k4, rfl, fun _ _ _ _ a n cp hv => ?_⟩, u, hcl⟩, ?_⟩
                  · injection hv with _ _ h3
                    rw [← h3]; omega
                  · refine hcl.trans ?_; simp [List.getD_eq_getElem?_getD, hu]
                · obtain ⟨u, hu, _⟩ := hcell _ x (flat_sub k3 hx)
                  simp only [List.getD_eq_getElem?_getD, hu, Option.getD_some]
                  exact k7 u (List.mem_of_getElem? hu)
                · obtain ⟨u, hu, _⟩ := hcell _ x (flat_sub k3 hx)
                  simp only [List.getD_eq_getElem?_getD, hu, Option.getD_some]
                  exact pm _ x u (flat_sub k3 hx) hu
            · exact .any
          · exact .any
    · exact hv.mono hx
  | _ => exact hv.mono hx

theorem VR.thaw {c : Cx} (h : WR c) {g : Nat} {x : AV} {v : Value} (hv : VR c x v) : VR (c.thaw g) (x.thaw c.st g) v := by
  cases hx : x with
  | agg cs =>
    subst hx
    simp only [AV.thaw]
    generalize hv' : v = v' at hv
    cases hv with
    | agg hl h1 hh => exact VR.agg_map (.agg hl h1 hh) (fun x v hv => hv.thawC h)
  | _ => subst hx; simp only [AV.thaw]; exact hv.thawC h

def accC : AV → List Nat
  | .acc g _ => [g]
  | .av g _ _ _ _ => [g]
  | _ => []
def AV.accs : AV → List Nat
  | .agg cs => cs.flatMap accC
  | x => accC x

/-- What becomes an element of a slice. -/
def AOp.elems (en : Env) : AOp → List Operand
  | .mksl _ _ ps => ps
  | .store _ x y => match opA en x with
    | .ep _ _ _ _ => [y]
    | _ => []
  | _ => []

def opT : List Operand → List Nat
  | [] => []
  | .tmp t :: r => t :: opT r
  | _ :: r => opT r

def thawE (ts : List Nat) (st : List AO) (g : Nat) (en : Env) : Env := ts.foldr (fun t E => (t, (en.get t).thaw st g) :: E) en

def preF (ts : List Nat) : List Nat → Env → List AO → Env × List AO
  | [], en, st => (en, st)
  | g :: gs, en, st => preF ts gs (thawE ts st g en) (st.set g .dead)

/-- Slices under construction that become elements are frozen first. -/
def preO (op : AOp) (en : Env) (st : List AO) : Env × List AO := match (op.elems en).flatMap fun y => (opA en y).accs with
  | [] => (en, st)
  | g :: gs => preF (opT (op.elems en)) (g :: gs) en st

theorem thawE_get {st : List AO} {g : Nat} {en : Env} {t : Nat} : ∀ {ts : List Nat}, (thawE ts st g en).get t = if t ∈ ts then (en.get t).thaw st g else en.get t
  | [] => by simp [thawE]
  | u :: ts => by
    have ih := thawE_get (st := st) (g := g) (en := en) (t := t) (ts := ts)
    simp only [thawE, List.foldr_cons, Env.get, List.mem_cons] at ih ⊢
    by_cases h : t = u
    · subst h; simp
    · rw [if_neg h, ih]; simp [h]

section
variable {P : Program} {N : Nat} {rd : Option Nat} {o : Oper} {en : Env} {mk : List Nat} {st : List AO} {K : AV → List AO → Prop}

theorem ops_thaw {ts : List Nat} {g : Nat} (h : OpS P N rd o (thawE ts st g en) mk (st.set g .dead) K) : OpS P N rd o en mk st K := by
  intro F n a w ρ D next Q hF hW hE hM hnext
  obtain ⟨h1, h2⟩ := WR.thaw (c := ⟨w, ρ, D, st⟩) hW (g := g)
  refine h F n a w ρ _ next Q hF h1 ⟨hE.1, fun t => ?_⟩ hM (fun v w' ρ' D' x st' k1 k2 k3 k4 => hnext v w' ρ' D' x st' k1 k2 (h2.trans k3) k4)
  rw [thawE_get]
  rcases hE.2 t with he | ⟨he1, he2⟩
  · left
    rw [he]; split <;> rfl
  · right
    refine ⟨he1, ?_⟩
    split
    · exact he2.thaw hW
    · exact he2.mono h2

theorem ops_preF {ts : List Nat} : ∀ {gs : List Nat} {en : Env} {st : List AO}, OpS P N rd o (preF ts gs en st).1 mk (preF ts gs en st).2 K → OpS P N rd o en mk st K
  | [], en, st, h => h
  | g :: gs, en, st, h => ops_thaw (ops_preF (gs := gs) h)

theorem ops_pre {op : AOp} (h : OpS P N rd o (preO op en st).1 mk (preO op en st).2 K) : OpS P N rd o en mk st K := by
  unfold preO at h
  split at h
  · exact h
  · exact ops_preF h

end
end Go.AW
