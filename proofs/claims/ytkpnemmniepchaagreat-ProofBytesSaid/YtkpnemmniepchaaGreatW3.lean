/-
  Steps of the world, calls, appends.
-/
import Derived.Test.YtkpnemmniepchaaGreatW2
import Derived.Laws.CopyRow
/-
  AW, part 9: how worlds and objects turn together: a new block of pure cells, a new object, an object that turns.
-/
namespace Go.AW
open Go Go.RowKit
set_option linter.unusedVariables false
set_option linter.unusedSimpArgs false

theorem OR.mono {c c' : Cx} (h : Ext c c') {i : Nat} {o : AO} (ho : OR c i o) (hρ : c'.ρ[i]? = c.ρ[i]?)
    (hb : o.alive = true → ∀ b v, c.ρ[i]? = some v → hblk v = some b → (∀ e sz xs, o = .acc e sz xs → ∀ a n cp, v = .slice a n cp → cp ≠ 0) → c'.w.heap[b]? = c.w.heap[b]?) : OR c' i o := by
  cases o with
  | dead => trivial
  | cells cs =>
    obtain ⟨b, e, vs, k1, k2, k3, k4, k5⟩ := ho
    exact ⟨b, e, vs, hρ.trans k1, (hb rfl b _ k1 rfl (fun _ _ _ h => by cases h)).trans k2, k3, k4, fun j x v hx hv => (k5 j x v hx hv).mono h⟩
  | acc e sz xs =>
    obtain ⟨k1, k2, k3, v, vals, k4, k5, k6, k7, k8⟩ := ho
    refine ⟨k1, k2, k3, v, vals, hρ.trans k4, ?_, k6, k7, fun j x u hx hu => (k8 j x u hx hu).mono h⟩
    rcases k5 with k5 | ⟨hl, k5⟩
    · exact .inl k5
    · obtain ⟨g, cap, cur, hv, h0, hh, r⟩ := k5
      exact .inr ⟨hl, g, cap, cur, hv, h0, (hb rfl g v k4 (by rw [hv]; rfl) (fun _ _ _ _ a n cp he => by rw [hv] at he; injection he with _ _ h3; omega)).trans hh, r⟩
  | map clk ents =>
    obtain ⟨b, k1, k2, k3⟩ := ho
    exact ⟨b, hρ.trans k1, (hb rfl b _ k1 rfl (fun _ _ _ h => by cases h)).trans k2, k3⟩
  | iter m since seen last =>
    obtain ⟨k0, b, bm, k1, k2, k3⟩ := ho
    refine ⟨Nat.lt_of_lt_of_le k0 h.ρlen, b, bm, hρ.trans k1, ?_, (hb rfl b _ k1 rfl (fun _ _ _ h => by cases h)).trans k3⟩
    rcases h.ρsame _ _ k2 with h1 | ⟨_, _, _, _, _, _, h1, _⟩
    · exact h1
    · cases h1
  | dfr =>
    obtain ⟨b, k1, k2⟩ := ho
    exact ⟨b, hρ.trans k1, (hb rfl b _ k1 (by simp [dfrH, hblk]) (fun _ _ _ h => by cases h)).trans k2⟩
  | loop N en ps asg body _ _ ls pend =>
    obtain ⟨b, r, k1, k2, k3, k4, k5, k6, k7, k8, k9⟩ := ho
    exact ⟨b, r, hρ.trans k1, (hb rfl b _ k1 rfl (fun _ _ _ h => by cases h)).trans k2, k3, k4, k5, k6, k7, k8, fun t => (k9 t).imp id (fun ⟨l1, l2⟩ => ⟨l1, l2.mono h⟩)⟩


/-- The world has grown: what lay there lies as it lay. -/
structure Grew (w w' : World) : Prop where
  os : w'.os = w.os
  tape : w'.tape = w.tape
  output : w'.output = w.output
  size : w.heap.size ≤ w'.heap.size
  block : ∀ k, k < w.heap.size → w'.heap[k]? = w.heap[k]?

theorem Grew.refl (w : World) : Grew w w := ⟨rfl, rfl, rfl, Nat.le_refl _, fun _ _ => rfl⟩
theorem Grew.trans {a b c : World} (h : Grew a b) (k : Grew b c) : Grew a c :=
  ⟨k.os.trans h.os, k.tape.trans h.tape, k.output.trans h.output, Nat.le_trans h.size k.size, fun i hi => (k.block i (Nat.lt_of_lt_of_le hi h.size)).trans (h.block i hi)⟩
theorem Grew.alloc (w : World) (o : Obj) : Grew w (w.alloc o) := ⟨rfl, rfl, rfl, by simp, fun k hk => Below.heap_alloc w o k hk⟩
theorem Grew.drew (w : World) : Grew w w.drew := ⟨rfl, rfl, rfl, Nat.le_refl _, fun _ _ => rfl⟩

theorem cell_of_heap {w w' : World} {b : Nat} (h : w'.heap[b]? = w.heap[b]?) (off : Nat) : w'.cell? ⟨b, off, none⟩ = w.cell? ⟨b, off, none⟩ := World.cell?_of_block (w := w) h

theorem lt_of_cell {w : World} {b off : Nat} {v : Value} (h : w.cell? ⟨b, off, none⟩ = some v) : b < w.heap.size := World.block_lt_of_cell? w _ h

/-- A new block of cells that are never written again. -/
theorem WR.data {c : Cx} (hW : WR c) {w' : World} (hg : Grew c.w w') (D' : Nat → Nat → Prop) (hD : ∀ b off, c.D b off → D' b off)
    (hnew : ∀ b off, D' b off → c.D b off ∨ (c.w.heap.size ≤ b ∧ ∃ v, w'.cell? ⟨b, off, none⟩ = some v)) :
    WR ⟨w', c.ρ, D', c.st⟩ ∧ Ext c ⟨w', c.ρ, D', c.st⟩ := by
  have own : ∀ {i b}, Owns ⟨w', c.ρ, D', c.st⟩ i b → Owns c i b := fun ⟨o, v, h⟩ => ⟨o, v, h⟩
  have hx : Ext c ⟨w', c.ρ, D', c.st⟩ := ⟨hg.os, hg.tape, hg.output, hg.size, hD, fun b off hd => by
      obtain ⟨v, hv⟩ := hW.cell b off hd
      exact cell_of_heap (hg.block b (lt_of_cell hv)) off,
    Nat.le_refl _, fun i v h => .inl h, fun g e sz xs _ h => ⟨xs, h, Nat.le_refl _, fun _ => rfl⟩, fun b hb _ => hg.block b hb, fun i b h _ => ⟨i, own h⟩, fun b off hd hb => by
      rcases hnew b off hd with h1 | ⟨h1, _⟩
      · exact .inl h1
      · omega⟩
  refine ⟨⟨hW.len, fun i o ho => ?_, fun i b h => Nat.lt_of_lt_of_le (hW.lt i b (own h)) hg.size, fun i j b h k => hW.sep i j b (own h) (own k), fun i b off h hd => ?_, fun b off hd => ?_⟩, hx⟩
  · exact OR.mono hx (hW.obj i o ho) rfl (fun ha b v hv hb hz => hg.block b (hW.lt i b ⟨o, v, ho, ha, hv, hb, hz⟩))
  · rcases hnew b off hd with h1 | ⟨h1, _⟩
    · exact hW.dis i b off (own h) h1
    · have := hW.lt i b (own h); omega
  · rcases hnew b off hd with h1 | ⟨_, h2⟩
    · obtain ⟨v, hv⟩ := hW.cell b off h1
      exact ⟨v, (cell_of_heap (hg.block b (lt_of_cell hv)) off).trans hv⟩
    · exact h2


/-- A new object behind all others, in blocks of its own. -/
theorem WR.push {c : Cx} (hW : WR c) {w' : World} (hg : Grew c.w w') (h : Value) (o : AO)
    (hblk' : ∀ b, hblk h = some b → o.alive = true → (∀ e sz xs, o = .acc e sz xs → ∀ a n cp, h = Value.slice a n cp → cp ≠ 0) → c.w.heap.size ≤ b ∧ b < w'.heap.size) (hO : ∀ c', c'.w = w' → c'.D = c.D → c'.ρ = c.ρ ++ [h] → c'.st = c.st ++ [o] → Ext c c' → OR c' c.st.length o) :
    WR ⟨w', c.ρ ++ [h], c.D, c.st ++ [o]⟩ ∧ Ext c ⟨w', c.ρ ++ [h], c.D, c.st ++ [o]⟩ := by
  have hl := hW.len
  have ρold : ∀ i, i < c.ρ.length → (c.ρ ++ [h])[i]? = c.ρ[i]? := fun i hi => List.getElem?_append_left hi
  have stold : ∀ i, i < c.st.length → (c.st ++ [o])[i]? = c.st[i]? := fun i hi => List.getElem?_append_left hi
  have own : ∀ {i b}, Owns ⟨w', c.ρ ++ [h], c.D, c.st ++ [o]⟩ i b → Owns c i b ∨ (i = c.st.length ∧ c.w.heap.size ≤ b ∧ b < w'.heap.size) := by
    rintro i b ⟨o', v, h1, h2, h3, h4, h5⟩
    by_cases hi : i < c.st.length
    · simp only [stold i hi, ρold i (by omega)] at h1 h3
      exact .inl ⟨o', v, h1, h2, h3, h4, h5⟩
    · have hi' : i = c.st.length := by
        have := (List.getElem?_eq_some_iff.1 h1).1
        simp at this; omega
      subst hi'
      have h3' : (c.ρ ++ [h])[c.st.length]? = some h := by rw [← hl]; simp
      simp only [h3'] at h3
      injection h3 with h3; subst h3
      have h1' : o' = o := by simp at h1; exact h1.symm
      subst h1'
      exact .inr ⟨rfl, hblk' b h4 h2 h5⟩
  have hx : Ext c ⟨w', c.ρ ++ [h], c.D, c.st ++ [o]⟩ := ⟨hg.os, hg.tape, hg.output, hg.size, fun _ _ h => h, fun b off hd => by
      obtain ⟨v, hv⟩ := hW.cell b off hd
      exact cell_of_heap (hg.block b (lt_of_cell hv)) off,
    by simp, fun i v hv => .inl (by rw [ρold i (List.getElem?_eq_some_iff.1 hv).1]; exact hv),
    fun g e sz xs hgl he => by
      simp only [stold g (by omega)] at he
      exact ⟨xs, he, Nat.le_refl _, fun _ => ρold g hgl⟩,
    fun b hb _ => hg.block b hb, fun i b hi hb => by
      rcases own hi with h1 | ⟨_, h1, _⟩
      · exact ⟨i, h1⟩
      · omega, fun _ _ hd _ => .inl hd⟩
  refine ⟨⟨by simp [hl], fun i o' ho => ?_, fun i b hi => ?_, fun i j b hi hj => ?_, fun i b off hi hd => ?_, fun b off hd => ?_⟩, hx⟩
  · by_cases hi : i < c.st.length
    · simp only [stold i hi] at ho
      exact OR.mono hx (hW.obj i o' ho) (ρold i (by omega)) (fun ha b v hv hb hz => hg.block b (hW.lt i b ⟨o', v, ho, ha, hv, hb, hz⟩))
    · have hi' : i = c.st.length := by
        have := (List.getElem?_eq_some_iff.1 ho).1
        simp at this; omega
      subst hi'
      simp at ho
      subst ho
      exact hO _ rfl rfl rfl rfl hx
  · rcases own hi with h1 | ⟨_, _, h1⟩
    · exact Nat.lt_of_lt_of_le (hW.lt i b h1) hg.size
    · exact h1
  · rcases own hi with h1 | ⟨e1, g1, _⟩ <;> rcases own hj with h2 | ⟨e2, g2, _⟩
    · exact hW.sep i j b h1 h2
    · have := hW.lt i b h1; omega
    · have := hW.lt j b h2; omega
    · omega
  · rcases own hi with h1 | ⟨_, g1, _⟩
    · exact hW.dis i b off h1 hd
    · obtain ⟨v, hv⟩ := hW.cell b off hd
      have := lt_of_cell hv; omega
  · obtain ⟨v, hv⟩ := hW.cell b off hd
    exact ⟨v, (cell_of_heap (hg.block b (lt_of_cell hv)) off).trans hv⟩

/-- An object turns: only its own block is written, or a new one is its own from now on. -/
theorem WR.upd {c : Cx} (hW : WR c) {w' : World} {i : Nat} {o0 o : AO} {h0 h : Value} (hst : c.st[i]? = some o0) (hρ : c.ρ[i]? = some h0)
    (hos : w'.os = c.w.os ∧ w'.tape = c.w.tape ∧ w'.output = c.w.output) (hsz : c.w.heap.size ≤ w'.heap.size)
    (hblock : ∀ k, k < c.w.heap.size → ¬ Owns c i k → w'.heap[k]? = c.w.heap[k]?)
    (hsame : h = h0 ∨ ∃ a n cp a' n' cp', h0 = Value.slice a n cp ∧ h = Value.slice a' n' cp')
    (hacc : ∀ e sz xs', o = .acc e sz xs' → ∃ xs, o0 = .acc e sz xs ∧ xs.length ≤ xs'.length ∧ (xs.length = xs'.length → h = h0))
    (hown : ∀ b, hblk h = some b → o.alive = true → (∀ e sz xs, o = .acc e sz xs → ∀ a n cp, h = Value.slice a n cp → cp ≠ 0) → Owns c i b ∨ (c.w.heap.size ≤ b ∧ b < w'.heap.size))
    (hO : ∀ c', c'.w = w' → c'.D = c.D → c'.ρ = c.ρ.set i h → c'.st = c.st.set i o → Ext c c' → OR c' i o) :
    WR ⟨w', c.ρ.set i h, c.D, c.st.set i o⟩ ∧ Ext c ⟨w', c.ρ.set i h, c.D, c.st.set i o⟩ := by
  have hl := hW.len
  have hil : i < c.st.length := (List.getElem?_eq_some_iff.1 hst).1
  have ρi : (c.ρ.set i h)[i]? = some h := by simp [List.getElem?_set]; omega
  have sti : (c.st.set i o)[i]? = some o := by simp [List.getElem?_set]; omega
  have ρold : ∀ j, j ≠ i → (c.ρ.set i h)[j]? = c.ρ[j]? := fun j hj => List.getElem?_set_ne (Ne.symm hj)
  have stold : ∀ j, j ≠ i → (c.st.set i o)[j]? = c.st[j]? := fun j hj => List.getElem?_set_ne (Ne.symm hj)
  have own : ∀ {j b}, Owns ⟨w', c.ρ.set i h, c.D, c.st.set i o⟩ j b → (j ≠ i ∧ Owns c j b) ∨ (j = i ∧ (Owns c i b ∨ (c.w.heap.size ≤ b ∧ b < w'.heap.size))) := by
    rintro j b ⟨o', v, h1, h2, h3, h4, h5⟩
    by_cases hj : j = i
    · subst hj
      simp only [ρi, sti] at h1 h3
      injection h1 with h1; injection h3 with h3
      subst h1; subst h3
      exact .inr ⟨rfl, hown b h4 h2 h5⟩
    · simp only [ρold j hj, stold j hj] at h1 h3
      exact .inl ⟨hj, o', v, h1, h2, h3, h4, h5⟩
  have cellD : ∀ b off, c.D b off → w'.heap[b]? = c.w.heap[b]? := fun b off hd => by
    obtain ⟨v, hv⟩ := hW.cell b off hd
    exact hblock b (lt_of_cell hv) (fun ho => hW.dis i b off ho hd)
  have hx : Ext c ⟨w', c.ρ.set i h, c.D, c.st.set i o⟩ := ⟨hos.1, hos.2.1, hos.2.2, hsz, fun _ _ h => h, fun b off hd => cell_of_heap (cellD b off hd) off,
    by simp, fun j v hv => by
      by_cases hj : j = i
      · subst hj
        rw [hρ] at hv; injection hv with hv; subst hv
        rcases hsame with rfl | ⟨a, n, cp, a', n', cp', h1, h2⟩
        · exact .inl ρi
        · exact .inr ⟨a, n, cp, a', n', cp', h1, by rw [← h2]; exact ρi⟩
      · exact .inl ((ρold j hj).trans hv),
    fun g e sz xs' hg he => by
      by_cases hj : g = i
      · subst hj
        simp only [sti] at he
        injection he with he
        obtain ⟨xs, h1, h2, h3⟩ := hacc e sz xs' he
        refine ⟨xs, by rw [hst, h1], h2, fun hle => ?_⟩
        rw [hρ, ← h3 hle]; exact ρi
      · simp only [stold g hj] at he
        exact ⟨xs', he, Nat.le_refl _, fun _ => ρold g hj⟩,
    fun b hb hn => hblock b hb (hn i), fun j b hj hb => by
      rcases own hj with ⟨_, h1⟩ | ⟨_, h1 | ⟨h1, _⟩⟩
      · exact ⟨j, h1⟩
      · exact ⟨i, h1⟩
      · omega, fun _ _ hd _ => .inl hd⟩
  refine ⟨⟨by simp [hl], fun j o' ho => ?_, fun j b hj => ?_, fun j k b hj hk => ?_, fun j b off hj hd => ?_, fun b off hd => ?_⟩, hx⟩
  · by_cases hj : j = i
    · subst hj
      simp only [sti] at ho
      injection ho with ho; subst ho
      exact hO _ rfl rfl rfl rfl hx
    · simp only [stold j hj] at ho
      exact OR.mono hx (hW.obj j o' ho) (ρold j hj) (fun ha b v hv hb hz => by
        have hoj : Owns c j b := ⟨o', v, ho, ha, hv, hb, hz⟩
        exact hblock b (hW.lt j b hoj) (fun hoi => hj (hW.sep j i b hoj hoi)))
  · rcases own hj with ⟨_, h1⟩ | ⟨_, h1 | ⟨_, h1⟩⟩
    · exact Nat.lt_of_lt_of_le (hW.lt j b h1) hsz
    · exact Nat.lt_of_lt_of_le (hW.lt i b h1) hsz
    · exact h1
  · rcases own hj with ⟨n1, h1⟩ | ⟨e1, h1⟩ <;> rcases own hk with ⟨n2, h2⟩ | ⟨e2, h2⟩
    · exact hW.sep j k b h1 h2
    · rcases h2 with h2 | ⟨h2, _⟩
      · exact absurd (hW.sep j i b h1 h2) n1
      · have := hW.lt j b h1; omega
    · rcases h1 with h1 | ⟨h1, _⟩
      · exact absurd (hW.sep k i b h2 h1) n2
      · have := hW.lt k b h2; omega
    · omega
  · rcases own hj with ⟨_, h1⟩ | ⟨_, h1 | ⟨h1, _⟩⟩
    · exact hW.dis j b off h1 hd
    · exact hW.dis i b off h1 hd
    · obtain ⟨v, hv⟩ := hW.cell b off hd
      have := lt_of_cell hv; omega
  · obtain ⟨v, hv⟩ := hW.cell b off hd
    exact ⟨v, (cell_of_heap (cellD b off hd) off).trans hv⟩

end Go.AW

/-
  AW, part 10: operations that turn objects, and calls.
-/
namespace Go.AW
open Go Go.RowKit
set_option linter.unusedVariables false
set_option linter.unusedSimpArgs false

def VRs (c : Cx) (xs : List AV) (vs : Array Value) : Prop :=
  xs.length = vs.size ∧ ∀ (i : Nat) x v, xs[i]? = some x → vs[i]? = some v → VR c x v

/-- What a call comes to. -/
def Post (c0 : Cx) (R : AV → List AO → Prop) : Ending → World → Prop := fun e w' =>
  ∃ v x st' ρ' D', e = .returned v ∧ WR ⟨w', ρ', D', st'⟩ ∧ VR ⟨w', ρ', D', st'⟩ x v ∧ Ext c0 ⟨w', ρ', D', st'⟩ ∧ R x st'

/-- A call of a function, from objects on, comes to what R says. -/
def ACall (P : Program) (f : Nat) (args : List AV) (st : List AO) (R : AV → List AO → Prop) : Prop :=
  ∀ w ρ D vs, WR ⟨w, ρ, D, st⟩ → VRs ⟨w, ρ, D, st⟩ args vs →
    ((callFunc f vs).run P w = .ok (.enter f vs) w ∧ Calls P f vs w (Post ⟨w, ρ, D, st⟩ R)) ∨
    ∃ v w', (callFunc f vs).run P w = .ok (.value v) w' ∧ Post ⟨w, ρ, D, st⟩ R (.returned v) w'

/-- A call of a round. -/
def AYield (P : Program) (i : Nat) (args : List AV) (st : List AO) (R : AV → List AO → Prop) : Prop :=
  ∀ n w ρ D vs b, WR ⟨w, ρ, D, st⟩ → ρ[i]? = some (.func (.yield b) #[] #[]) → VRs ⟨w, ρ, D, st⟩ args vs →
    ∃ f tmps asg bdy, (Instr.yield b vs).run P w = .ok (.round b f tmps asg bdy) w ∧ RoundIn Fence.wide n P b f tmps asg bdy w (Post ⟨w, ρ, D, st⟩ R)

/-- A call of a function value. -/
def AFn (P : Program) (fv : AV) (args : List AV) (st : List AO) (R : AV → List AO → Prop) : Prop := match fv with
  | .fn f k caps => ACall P f (caps.take k ++ args ++ caps.drop k) st R
  | .yl i => AYield P i args st R
  | _ => False

theorem ACall.mono {P : Program} {f : Nat} {args : List AV} {st : List AO} {R R' : AV → List AO → Prop} (h : ACall P f args st R) (hr : ∀ x st, R x st → R' x st) : ACall P f args st R' := by
  intro w ρ D vs hW hV
  have pm : ∀ e w', Post ⟨w, ρ, D, st⟩ R e w' → Post ⟨w, ρ, D, st⟩ R' e w' := fun e w' ⟨v, x, st', ρ', D', h1, h2, h3, h4, h5⟩ => ⟨v, x, st', ρ', D', h1, h2, h3, h4, hr _ _ h5⟩
  rcases h w ρ D vs hW hV with ⟨h1, h2⟩ | ⟨v, w', h1, h2⟩
  · refine .inl ⟨h1, fun cs => ?_⟩
    obtain ⟨e, w', fr, hR, hs⟩ := h2 cs
    exact ⟨e, w', fr, pm _ _ hR, hs⟩
  · exact .inr ⟨v, w', h1, pm _ _ h2⟩

theorem AFn.mono {P : Program} {fv : AV} {args : List AV} {st : List AO} {R R' : AV → List AO → Prop} (h : AFn P fv args st R) (hr : ∀ x st, R x st → R' x st) : AFn P fv args st R' := by
  cases fv with
  | fn f k caps => exact ACall.mono h hr
  | yl i =>
    intro n w ρ D vs b hW hb hV
    obtain ⟨f, tmps, asg, bdy, h1, h2⟩ := h n w ρ D vs b hW hb hV
    exact ⟨f, tmps, asg, bdy, h1, h2.mono fun e w' ⟨v, x, st', ρ', D', h1, h2, h3, h4, h5⟩ => ⟨v, x, st', ρ', D', h1, h2, h3, h4, hr _ _ h5⟩⟩
  | _ => exact h

/-- An operation, from an environment and objects on, yields what K takes. -/
def OpS (P : Program) (N : Nat) (rd : Option Nat) (o : Oper) (en : Env) (mk : List Nat) (st : List AO) (K : AV → List AO → Prop) : Prop :=
  ∀ F n a w ρ D next Q, FR ρ rd F → WR ⟨w, ρ, D, st⟩ → ER ⟨w, ρ, D, st⟩ en N a.tmps → MR ρ mk a.defers →
    (∀ v w' ρ' D' x st', WR ⟨w', ρ', D', st'⟩ → VR ⟨w', ρ', D', st'⟩ x v → Ext ⟨w, ρ, D, st⟩ ⟨w', ρ', D', st'⟩ → K x st' → next (a.put o.dst v) w') → o.wpIn F n P a w next Q

section
variable {P : Program} {N : Nat} {rd : Option Nat} {o : Oper} {en : Env} {mk : List Nat} {st : List AO} {K : AV → List AO → Prop} {c : Cx} {a : Act}

theorem FR.fn {ρ : List Value} {F : Fence} (h : FR ρ rd F) (f : FuncId) : F.fn f := by
  rcases h with ⟨_, rfl⟩ | ⟨i, b, _, _, rfl⟩ <;> exact trivial
theorem FR.depth {ρ : List Value} {F : Fence} (h : FR ρ rd F) : F.depth = none := by
  rcases h with ⟨_, rfl⟩ | ⟨i, b, _, _, rfl⟩ <;> rfl

/-- An operation that hands back a value (or none), from its run. -/
theorem ops_run (hd : ∀ c, o.op ≠ .defer c)
    (h : ∀ (w : World) ρ D (a : Act), WR ⟨w, ρ, D, st⟩ → ER ⟨w, ρ, D, st⟩ en N a.tmps →
      ∃ v x w' ρ' D' st', ((execOp a.eval o).run P w = .ok (.value v) w' ∨ ((execOp a.eval o).run P w = .ok .skip w' ∧ v = undef)) ∧ WR ⟨w', ρ', D', st'⟩ ∧ VR ⟨w', ρ', D', st'⟩ x v ∧ Ext ⟨w, ρ, D, st⟩ ⟨w', ρ', D', st'⟩ ∧ K x st') :
    OpS P N rd o en mk st K := by
  intro F n a w ρ D next Q hF hW hE hM hnext
  obtain ⟨v, x, w', ρ', D', st', hrun, h1, h2, h3, h4⟩ := h w ρ D a hW hE
  refine ⟨fun f _ => hF.fn f, ?_⟩
  rw [Oper.semAt_eq _ _ _ hd]
  rcases hrun with hrun | ⟨hrun, rfl⟩
  · rw [hrun]; exact hnext v w' ρ' D' x st' h1 h2 h3 h4
  · rw [hrun]; exact hnext undef w' ρ' D' x st' h1 h2 h3 h4

theorem dec_defer {d : Call} (h : o.op = .defer d) : dec P o = .raw o := by simp [dec, h]

theorem ops_quiet {x : AV} (h : evQ (dec P o) en st = some x) (hK : K x st) : OpS P N rd o en mk st K := by
  refine ops_run (fun d hd => by rw [dec_defer hd] at h; simp [evQ] at h) (fun w ρ D a hW hE => ?_)
  obtain ⟨v, h1, h2⟩ := evQ_ok (c := ⟨w, ρ, D, st⟩) hW hE h
  exact ⟨v, x, w, ρ, D, st, .inl h1, hW, h2, .refl _, hK⟩

/-- A new variable. -/
theorem new_cells (hW : WR c) {x : AV} {v : Value} {cs : List AV} (e : TypeId) (hv : VR c x v) (hc : x.cells? = some cs) :
    ∃ w', w' = c.w.alloc (.cells v.cells e) ∧ WR ⟨w', c.ρ ++ [.pointer (some ⟨c.w.heap.size, 0, none⟩)], c.D, c.st ++ [.cells cs]⟩ ∧
      Ext c ⟨w', c.ρ ++ [.pointer (some ⟨c.w.heap.size, 0, none⟩)], c.D, c.st ++ [.cells cs]⟩ := by
  obtain ⟨k1, k2, k3⟩ := hv.cells hc
  refine ⟨_, rfl, WR.push hW (Grew.alloc _ _) (.pointer (some ⟨c.w.heap.size, 0, none⟩)) (.cells cs) (fun b hb _ _ => ?_) (fun c' e1 e2 e3 e4 hx => ?_)⟩
  · simp [hblk] at hb; subst hb; simp
  · refine ⟨c.w.heap.size, e, v.cells, ?_, ?_, k1, k2, fun j y u hy hu => (k3 j y u hy hu).mono hx⟩
    · rw [e3, ← hW.len]; simp
    · rw [e1]; exact World.alloc_heap_new _ _

theorem ops_box {y : Operand} {t : TypeId} {cs : List AV} (ho : o.op = .box t y) (hc : (opA en y).cells? = some cs) (hK : K (.ref st.length 0) (st ++ [.cells cs])) : OpS P N rd o en mk st K := by
  refine ops_run (by simp [ho]) (fun w ρ D a hW hE => ?_)
  obtain ⟨w', hw, h1, h2⟩ := new_cells (c := ⟨w, ρ, D, st⟩) hW t (hE.opA y) hc
  refine ⟨.pointer (some ⟨w.heap.size, 0, none⟩), _, w', _, _, _, .inl ?_, h1, ?_, h2, hK⟩
  · rw [hw]; simp [execOp, ho, Instr.box, newVar, newRow]
  · refine .ref ?_
    have hl : ρ.length = st.length := hW.len
    simp [← hl]

theorem ops_alloc {t : TypeId} {z : Value} {cs : List AV} (ho : o.op = .alloc t) (hz : (P.info? t).bind (·.zero) = some z) (hc : (constA z).cells? = some cs)
    (hK : K (.ref st.length 0) (st ++ [.cells cs])) : OpS P N rd o en mk st K := by
  refine ops_run (by simp [ho]) (fun w ρ D a hW hE => ?_)
  obtain ⟨w', hw, h1, h2⟩ := new_cells (c := ⟨w, ρ, D, st⟩) hW t (VR.constA z) hc
  refine ⟨.pointer (some ⟨w.heap.size, 0, none⟩), _, w', _, _, _, .inl ?_, h1, ?_, h2, hK⟩
  · rw [hw]
    cases hi : P.info? t with
    | none => simp [hi] at hz
    | some i =>
      simp [hi] at hz
      simp [execOp, ho, Instr.alloc, newVar, newRow, zeroValue, run_tinfo hi, hz]
  · refine .ref ?_
    have hl : ρ.length = st.length := hW.len
    simp [← hl]

/-- Inner slices as they lie in a slice that is never written again. -/
def AV.nrmC : AV → AV
  | .sl _ xs => .sl false xs
  | x => x
def AV.nrm : AV → AV
  | .agg cs => .agg (cs.map AV.nrmC)
  | x => x.nrmC

theorem VR.nrmC {x : AV} {v : Value} (h : VR c x v) : VR c x.nrmC v := by
  cases x <;> simp only [AV.nrmC] <;> first | exact h.clipOff | exact h
theorem VR.nrm {x : AV} {v : Value} (h : VR c x v) : VR c x.nrm v := by
  cases hx : x with
  | agg cs =>
    subst hx
    simp only [AV.nrm]
    generalize hv : v = v' at h
    cases h with
    | agg hl h1 hh => exact VR.agg_map (.agg hl h1 hh) (fun x v hv => hv.nrmC)
  | _ => subst hx; simp only [AV.nrm]; exact h.nrmC

end
end Go.AW

/-
  AW, part 11: slices' literals, stores, append, calls.
-/
namespace Go.AW
open Go Go.RowKit
set_option linter.unusedVariables false
set_option linter.unusedSimpArgs false

section
variable {P : Program} {N : Nat} {rd : Option Nat} {o : Oper} {en : Env} {mk : List Nat} {st : List AO} {K : AV → List AO → Prop} {c : Cx} {a : Act}

/-- A store into an object's cells. -/
def putAt (cs : List AV) (off : Nat) (vs : List AV) : List AV := cs.take off ++ vs ++ cs.drop (off + vs.length)

theorem ops_store {t : TypeId} {y z : Operand} {i : TypeInfo} {j off : Nat} {cs vs : List AV} (ho : o.op = .store t y z) (hi : P.info? t = some i)
    (hy : opA en y = .ref j off) (hj : st[j]? = some (.cells cs)) (hz : (opA en z).cells? = some vs) (hn : vs.length = i.size) (hle : off + i.size ≤ cs.length)
    (hK : K .any (st.set j (.cells (putAt cs off vs)))) : OpS P N rd o en mk st K := by
  refine ops_run (by simp [ho]) (fun w ρ D a hW hE => ?_)
  have hyv := hE.opA (a := a) y
  rw [hy] at hyv
  obtain ⟨z1, z2, z3⟩ := (hE.opA (a := a) z).cells hz
  generalize hye : a.eval y = v at hyv
  cases hyv with
  | @ref _ _ b hρ =>
    obtain ⟨b', e, arr, k1, k2, k3, k4, k5⟩ := hW.obj j _ hj
    have hbb : b' = b := by
      have := hρ.symm.trans k1
      simpa using this.symm
    subst hbb
    have hst := run_storeCells_at P b' off e (a.eval z).cells.toList 0 arr w k2 (by simp; omega) (fun v hv => z2 v (by simpa using hv))
    simp only [Nat.add_zero] at hst
    let row : Array Value := (arr.toList.take off ++ (a.eval z).cells.toList ++ arr.toList.drop (off + (a.eval z).cells.toList.length)).toArray
    have hrow : ∀ k, row[k]? = if off ≤ k ∧ k < off + i.size then (a.eval z).cells[k - off]? else arr[k]? := by
      intro k
      have ht : (arr.toList.take off).length = off := by simp; omega
      have hzl : (a.eval z).cells.toList.length = i.size := by simp; omega
      show (arr.toList.take off ++ (a.eval z).cells.toList ++ arr.toList.drop (off + (a.eval z).cells.toList.length)).toArray[k]? = _
      rw [List.getElem?_toArray]
      by_cases h1 : k < off
      · rw [List.append_assoc, List.getElem?_append_left (by omega), if_neg (by omega), List.getElem?_take, if_pos h1, Array.getElem?_toList]
      · by_cases h2 : k < off + i.size
        · rw [if_pos (by omega), List.append_assoc, List.getElem?_append_right (by omega), ht, List.getElem?_append_left (by omega), Array.getElem?_toList]
        · rw [if_neg (by omega), List.getElem?_append_right (by simp; omega), List.getElem?_drop, ← Array.getElem?_toList]
          congr 1; simp; omega
    have hput : ∀ k, (putAt cs off vs)[k]? = if off ≤ k ∧ k < off + i.size then vs[k - off]? else cs[k]? := by
      intro k
      have ht : (cs.take off).length = off := by simp; omega
      unfold putAt
      by_cases h1 : k < off
      · rw [List.append_assoc, List.getElem?_append_left (by omega), if_neg (by omega), List.getElem?_take, if_pos h1]
      · by_cases h2 : k < off + i.size
        · rw [if_pos (by omega), List.append_assoc, List.getElem?_append_right (by omega), ht, List.getElem?_append_left (by omega)]
        · rw [if_neg (by omega), List.getElem?_append_right (by simp; omega), List.getElem?_drop]
          congr 1; simp; omega
    have hrs : row.size = cs.length := by
      show (arr.toList.take off ++ (a.eval z).cells.toList ++ arr.toList.drop (off + (a.eval z).cells.toList.length)).toArray.size = _
      simp; omega
    have hown : Owns ⟨w, ρ, D, st⟩ j b' := ⟨_, _, hj, rfl, hρ, rfl, fun _ _ _ h => by cases h⟩
    have hU := WR.upd (c := ⟨w, ρ, D, st⟩) hW (w' := w.setRow b' row) (h := .pointer (some ⟨b', 0, none⟩)) (o := .cells (putAt cs off vs)) hj hρ ⟨rfl, rfl, rfl⟩ (by simp)
      (fun k hk hnk => setRow_other w b' k row (fun e => hnk (e ▸ hown))) (.inl rfl) (fun _ _ _ h => by cases h) (fun b hb _ _ => .inl (by simp [hblk] at hb; exact hb ▸ hown))
      (fun c' e1 e2 e3 e4 hx => by
        refine ⟨b', e, row, ?_, by rw [e1]; exact setRow_heap w b' arr row e (0, 0) k2, by rw [hrs]; simp [putAt]; omega, fun v hv => ?_, fun k x v hx' hv => ?_⟩
        · rw [e3]; simp [List.getElem?_set]; exact (List.getElem?_eq_some_iff.1 hρ).1
        · obtain ⟨k, hk, rfl⟩ := Array.getElem_of_mem hv
          have := hrow k
          rw [Array.getElem?_eq_getElem hk] at this
          split at this
          · exact z2 _ (Array.mem_of_getElem? this.symm)
          · exact k4 _ (Array.mem_of_getElem? this.symm)
        · rw [hput] at hx'; rw [hrow] at hv
          split at hv
          · rename_i hc; rw [if_pos hc] at hx'; exact (z3 _ x v hx' hv).mono hx
          · rename_i hc; rw [if_neg hc] at hx'; exact (k5 k x v hx' hv).mono hx)
    have hset : ρ.set j (.pointer (some ⟨b', 0, none⟩)) = ρ := by
      apply List.ext_getElem?; intro k
      rw [List.getElem?_set]
      split
      · rename_i h; subst h; rw [hρ]; simp [(List.getElem?_eq_some_iff.1 hρ).1]
      · rfl
    refine ⟨undef, .any, w.setRow b' row, _, _, _, .inr ⟨?_, rfl⟩, hU.1, .any, hU.2, hK⟩
    have : (Instr.storeAt t (a.eval y) (a.eval z)).run P w = .ok () (w.setRow b' row) := by
      rw [hye]
      simp only [Instr.storeAt, Instr.sureAddr, Sem.run_bind, Sem.run_pure, Result.andThen_ok, storeVar, run_size hi]
      rw [if_neg (by omega)]
      exact hst
    simp [execOp, ho, Sem.run_bind, this]

theorem ops_call {cl : Call} {f : Operand} (ho : o.op = .call cl) (hc : cl.callee = .value f) (h : AFn P (opA en f) (cl.args.toList.map (opA en)) st K) : OpS P N rd o en mk st K := by
  intro F n a w ρ D next Q hF hW hE hM hnext
  refine ⟨fun f _ => hF.fn f, ?_⟩
  rw [Oper.semAt_eq _ _ _ (by simp [ho])]
  have hf := hE.opA (a := a) f
  have hargs : VRs ⟨w, ρ, D, st⟩ (cl.args.toList.map (opA en)) (cl.args.map a.eval) := by
    refine ⟨by simp, fun i x v hx hv => ?_⟩
    simp only [List.getElem?_map, Array.getElem?_toList, Array.getElem?_map] at hx hv
    cases hq : cl.args[i]? with
    | none => rw [hq] at hx; cases hx
    | some q => rw [hq] at hx hv; simp at hx hv; subst hx; subst hv; exact hE.opA q
  have hcont : ∀ e w', Post ⟨w, ρ, D, st⟩ K e w' → match e, w' with
      | .returned v, w'' => next (a.put o.dst v) w''
      | .panicked chain, w'' => Q (.panic chain) a w''
      | .outgrown, _ => LetsOut Q := by
    rintro e w' ⟨v, x, st', ρ', D', rfl, h1, h2, h3, h4⟩
    exact hnext v w' ρ' D' x st' h1 h2 h3 h4
  cases hx : opA en f with
  | fn g k caps =>
    rw [hx] at hf h
    generalize hfe : a.eval f = fv at hf
    cases hf with
    | @fn _ _ _ us vs hk hl hh =>
      have hV : VRs ⟨w, ρ, D, st⟩ (caps.take k ++ cl.args.toList.map (opA en) ++ caps.drop k) (us ++ cl.args.map a.eval ++ vs) := by
        have hul : (caps.take k).length = us.size := by simp at hl ⊢; omega
        refine ⟨by simp [hargs.1] at hl ⊢; omega, fun i x v hx hv => ?_⟩
        by_cases hi : i < us.size
        · rw [List.append_assoc, List.getElem?_append_left (by omega), List.getElem?_take, if_pos (by omega)] at hx
          rw [Array.append_assoc, Array.getElem?_append_left hi] at hv
          exact hh i x v hx (by rw [Array.getElem?_append_left hi]; exact hv)
        · by_cases hi2 : i < us.size + cl.args.size
          · rw [List.append_assoc, List.getElem?_append_right (by omega), List.getElem?_append_left (by simp at hi2 hul ⊢; omega)] at hx
            rw [Array.append_assoc, Array.getElem?_append_right (by omega), Array.getElem?_append_left (by simp; omega)] at hv
            rw [hul] at hx
            exact hargs.2 _ x v hx hv
          · rw [List.getElem?_append_right (by simp at hul ⊢; omega), List.getElem?_drop] at hx
            rw [Array.getElem?_append_right (by simp; omega)] at hv
            simp only [List.length_append, List.length_map, Array.length_toList, Array.size_append, Array.size_map, hul] at hx hv
            refine hh _ x v hx ?_
            rw [Array.getElem?_append_right (by omega), ← hv]
            congr 1; omega
      have hrun : (execOp a.eval o).run P w = (callFunc g (us ++ cl.args.map a.eval ++ vs)).run P w := by
        simp [execOp, ho, resolve, hc, hfe, Deferred.ofValue, Sem.run_bind, invoke]
      rw [hrun]
      rcases h w ρ D _ hW hV with ⟨h1, h2⟩ | ⟨v, w', h1, h2⟩
      · rw [h1]
        refine ⟨(fun hd => by rw [hF.depth] at hd; cases hd), ?_⟩
        have hci : CallsIn Fence.wide (n - 1) P g (us ++ cl.args.map a.eval ++ vs) w (Post ⟨w, ρ, D, st⟩ K) := callsIn_wide.2 h2
        have hci' : CallsIn F (n - 1) P g (us ++ cl.args.map a.eval ++ vs) w (Post ⟨w, ρ, D, st⟩ K) := by
          rcases hF with ⟨_, rfl⟩ | ⟨i, b, _, _, rfl⟩
          · exact hci
          · exact CallsIn.inRound b hci
        exact hci'.mono (fun e w' hp => by
          have := hcont e w' hp
          cases e <;> exact this)
      · rw [h1]
        obtain ⟨v', x, st', ρ', D', he, h3, h4, h5, h6⟩ := h2
        injection he with he; subst he
        exact hnext _ w' ρ' D' x st' h3 h4 h5 h6
  | yl i =>
    rw [hx] at hf h
    generalize hfe : a.eval f = fv at hf
    cases hf with
    | @yl _ b hb =>
      obtain ⟨g, tmps, asg, bdy, h1, h2⟩ := h (n - 1) w ρ D (cl.args.map a.eval) b hW hb hargs
      have hrun : (execOp a.eval o).run P w = (Instr.yield b (cl.args.map a.eval)).run P w := by
        simp [execOp, ho, resolve, hc, hfe, Deferred.ofValue, Sem.run_bind, invoke]
      rw [hrun, h1]
      refine ⟨(fun hd => by rw [hF.depth] at hd; cases hd), ?_⟩
      have h2' : RoundIn F (n - 1) P b g tmps asg bdy w (Post ⟨w, ρ, D, st⟩ K) := by
        rcases hF with ⟨_, rfl⟩ | ⟨i, b', _, _, rfl⟩
        · exact h2
        · exact h2
      exact h2'.mono (fun e w' hp => by
        have := hcont e w' hp
        cases e <;> exact this)
  | _ => rw [hx] at h; exact h.elim

end
end Go.AW

/-
  AW, part 12: slices' literals, append.
-/
namespace Go.AW
open Go Go.RowKit
set_option linter.unusedVariables false
set_option linter.unusedSimpArgs false

section
variable {P : Program} {N : Nat} {rd : Option Nat} {o : Oper} {en : Env} {mk : List Nat} {st : List AO} {K : AV → List AO → Prop} {c : Cx} {a : Act}

def seqP (sz : Nat) : Nat → List AV → List (Nat × Nat × AV)
  | _, [] => []
  | k, x :: r => (k * sz, sz, x) :: seqP sz (k + 1) r

theorem seqP_get {sz : Nat} : ∀ {xs : List AV} {k j : Nat}, (seqP sz k xs)[j]? = (xs[j]?).map fun x => ((k + j) * sz, sz, x)
  | [], _, _ => by simp [seqP]
  | x :: xs, k, 0 => by simp [seqP]
  | x :: xs, k, j + 1 => by
    simp only [seqP, List.getElem?_cons_succ, seqP_get]
    rw [show k + 1 + j = k + (j + 1) by omega]
theorem seqP_len {sz : Nat} : ∀ {xs : List AV} {k : Nat}, (seqP sz k xs).length = xs.length
  | [], _ => rfl
  | x :: xs, k => by simp [seqP, seqP_len]

theorem fillA_seq {sz : Nat} : ∀ {xs : List AV} {k : Nat} {pre rest : List AV}, (∀ x ∈ xs, ∃ cs, x.cells? = some cs ∧ cs.length = sz) → pre.length = k * sz → xs.length * sz ≤ rest.length →
    fillA (pre ++ rest) (seqP sz k xs) = some (pre ++ flat xs ++ rest.drop (xs.length * sz))
  | [], k, pre, rest, _, _, _ => by simp [seqP, fillA, flat]
  | x :: xs, k, pre, rest, h, hp, hr => by
    obtain ⟨cs, h1, h2⟩ := h x (List.mem_cons_self ..)
    have hr' : sz + xs.length * sz ≤ rest.length := by simp [Nat.add_mul] at hr; omega
    simp only [seqP, fillA, h1]
    rw [if_pos ⟨h2, by simp; omega⟩]
    have e1 : (pre ++ rest).take (k * sz) = pre := by rw [← hp]; simp
    have e2 : (pre ++ rest).drop (k * sz + sz) = rest.drop sz := by
      rw [← hp, List.drop_append]; simp
    rw [e1, e2]
    rw [fillA_seq (fun y hy => h y (List.mem_cons_of_mem _ hy)) (by simp [hp, h2, Nat.add_mul]) (by simp; omega)]
    have hce := cells_of h1
    simp only [flat, List.flatMap_cons, hce, List.append_assoc, List.drop_drop, List.length_cons, Nat.add_mul, Nat.one_mul]
    rw [show sz + xs.length * sz = xs.length * sz + sz by omega]

theorem ops_mksl {t e len : Nat} {parts : Array (Nat × Operand)} {sz : Nat} {ps : List Operand} (ho : o.op = .buildSlice t len parts) (hd : dec P o = .mksl e sz ps)
    (hp : ∀ x ∈ ps.map (opA en), x.nrm.pure1 = true) (hsz : ∀ x ∈ ps.map (opA en), x.nrm.cells.length = sz)
    (hK : K (.sl true (ps.map fun y => (opA en y).nrm)) st) : OpS P N rd o en mk st K := by
  refine ops_run (by simp [ho]) (fun w ρ D a hW hE => ?_)
  simp only [dec, ho] at hd
  split at hd
  case h_2 => cases hd
  rename_i e' hu
  split at hd
  case h_2 => cases hd
  rename_i i hi
  split at hd
  case h_2 => cases hd
  rename_i z hz
  split at hd
  case isFalse => cases hd
  rename_i hcond
  obtain ⟨q1, q2, q3, q4, q5⟩ := hcond
  injection hd with d1 d2 d3
  subst d1; subst d2; subst d3
  obtain ⟨zc, hzc⟩ := Option.isSome_iff_exists.1 q5
  obtain ⟨z1, z2, z3⟩ := (VR.constA (c := ⟨w, ρ, D, st⟩) z).cells hzc
  let xs : List AV := (parts.toList.map (·.2)).map fun y => (opA en y).nrm
  have hlen : xs.length = len := by
    have := congrArg List.length q1
    simp at this
    simp [xs, this]
  have hxs : ∀ x ∈ xs, x.pure1 = true ∧ x.cells.length = i.size := fun x hx => by
    simp only [xs, List.mem_map] at hx
    obtain ⟨y, hy, rfl⟩ := hx
    exact ⟨hp _ (List.mem_map.2 ⟨y, List.mem_map.2 hy, rfl⟩), hsz _ (List.mem_map.2 ⟨y, List.mem_map.2 hy, rfl⟩)⟩
  have hcells : ∀ x ∈ xs, ∃ cs, x.cells? = some cs ∧ cs.length = i.size := fun x hx => by
    obtain ⟨h1, h2⟩ := hxs x hx
    cases x <;> simp_all [AV.pure1, AV.flatOk, AV.cells?, AV.cells]
  let zv : Array Value := (Array.range (len * i.size)).map (z.cells[· % z.cells.size]!)
  have hzv : zv.size = len * i.size := by simp [zv]
  have hfa := fillA_seq (sz := i.size) (xs := xs) (k := 0) (pre := []) (rest := List.replicate (len * i.size) .any) hcells (by simp) (by simp [hlen])
  simp only [List.nil_append, hlen] at hfa
  rw [List.drop_of_length_le (by simp), List.append_nil] at hfa
  obtain ⟨cv, k1, k2, k3, k4⟩ := fill_ok (c := ⟨w, ρ, D, st⟩) (place := fun i_1 => some (i_1 * i.size, i.size)) (l := (parts.map fun (i, x) => (i, a.eval x)).toList) (ps := seqP i.size 0 xs)
    (zs := List.replicate (len * i.size) .any) (zv := zv) (by simp [seqP_len, xs]) (fun j ii v off sz' y h1 h2 => by
      simp only [Array.toList_map, List.getElem?_map] at h1
      rw [seqP_get] at h2
      cases hpq : parts.toList[j]? with
      | none => rw [hpq] at h1; cases h1
      | some q =>
        rw [hpq] at h1
        simp at h1
        obtain ⟨rfl, rfl⟩ := h1
        have hx : xs[j]? = some (opA en q.2).nrm := by simp [xs, hpq]
        rw [hx] at h2
        simp at h2
        obtain ⟨rfl, rfl, rfl⟩ := h2
        have hqj : q.1 = j := by
          have e1 := congrArg (fun l => l[j]?) q1
          simp only [List.getElem?_map, hpq, Option.map_some] at e1
          have hjl : j < len := by rw [← hlen]; exact (List.getElem?_eq_some_iff.1 hx).1
          rw [List.getElem?_range hjl] at e1
          simpa using e1
        refine ⟨by simp [hqj], (hE.opA q.2).nrm⟩) (by simp [hzv]) (fun u hu => by
      obtain ⟨j, hj, rfl⟩ := Array.getElem_of_mem hu
      simp only [zv, Array.getElem_map]
      have hpos : 0 < z.cells.size := by omega
      have hlt : (Array.range (len * i.size))[j]'(by simpa [zv] using hj) % z.cells.size < z.cells.size := Nat.mod_lt _ hpos
      rw [getElem!_pos z.cells _ hlt]
      exact z2 _ (Array.getElem_mem _)) (fun j y u hy _ => by
      have := List.mem_of_getElem? hy
      have := List.eq_of_mem_replicate this
      subst this; exact .any) hfa
  have hg : Grew w (w.alloc (.cells cv e')) := Grew.alloc _ _
  let D' : Nat → Nat → Prop := fun b off => D b off ∨ (b = w.heap.size ∧ off < cv.size)
  have hcell : ∀ off, off < cv.size → ∃ v, cv[off]? = some v ∧ (w.alloc (.cells cv e')).cell? ⟨w.heap.size, off, none⟩ = some v := fun off ho => by
    refine ⟨cv[off], Array.getElem?_eq_getElem ho, ?_⟩
    rw [World.cell?_alloc_new]; exact Array.getElem?_eq_getElem ho
  have hU := WR.data (c := ⟨w, ρ, D, st⟩) hW hg D' (fun _ _ h => .inl h) (fun b off h => by
    rcases h with h | ⟨rfl, h⟩
    · exact .inl h
    · obtain ⟨v, _, hv⟩ := hcell off h
      exact .inr ⟨Nat.le_refl _, v, hv⟩)
  have hfl : (flat xs).length = len * i.size := by rw [flat_len (sz := i.size) (fun x hx => (hxs x hx).2), hlen]
  refine ⟨.slice (some ⟨w.heap.size, 0, none⟩) len len, .sl true xs, w.alloc (.cells cv e'), ρ, D', st, .inl ?_, hU.1, ?_, hU.2, hK⟩
  · have hbs : (Instr.buildSlice t len (parts.map fun (i, x) => (i, a.eval x))).run P w = .ok (.slice (some ⟨w.heap.size, 0, none⟩) len len) (w.alloc (.cells cv e')) := by
      unfold Instr.buildSlice
      simp only [Sem.run_bind, run_under hu, Result.andThen_ok, run_size hi]
      rw [if_neg (by omega)]
      by_cases h0 : len * i.size = 0
      · rw [if_pos h0]
        simp only [Sem.run_pure, Result.andThen_ok, Sem.run_bind]
        have hzv0 : (Array.map (fun x => (#[] : Array Value)[x % (#[] : Array Value).size]!) (Array.range (len * i.size))) = zv := by simp [zv, h0]
        rw [hzv0, k1]
        simp [newRow]
      · rw [if_neg h0]
        simp only [Sem.run_bind, zeroValue, run_tinfo hi, Result.andThen_ok, hz, Sem.run_pure]
        show (match Instr.fill (fun i_1 => some (i_1 * i.size, i.size)) zv (parts.map fun (i, x) => (i, a.eval x)).toList with
          | some cells => _
          | _ => _ : Sem Value).run P w = _
        rw [k1]
        simp [newRow]
    simp [execOp, ho, Sem.run_bind, hbs]
  · have hbound : len ≤ 16777216 := by
      have : len * 1 ≤ len * i.size := Nat.mul_le_mul_left _ q3
      omega
    refine .sl i.size (fun j => cv.getD j undef) hlen.symm (Nat.le_refl _) (fun _ => rfl) (by unfold maxLen; omega) (by omega) (fun h => by cases h) (fun ad h _ => by injection h with h; rw [← h])
      (fun x hx => (hxs x hx).1) (fun x hx => (hxs x hx).2) (fun ad j x had hx => ?_) (fun j x hx => ?_) (fun j x hx => ?_)
    · injection had with had; subst had
      have hj : j < cv.size := by rw [k2]; exact (List.getElem?_eq_some_iff.1 hx).1
      obtain ⟨v, h1, h2⟩ := hcell j hj
      refine ⟨rfl, .inr ⟨rfl, by simpa using hj⟩, ?_⟩
      simp only [Nat.zero_add]
      rw [h2]; simp [Array.getD_eq_getD_getElem?, h1]
    · have hj : j < cv.size := by rw [k2]; exact (List.getElem?_eq_some_iff.1 hx).1
      simp only [Array.getD_eq_getD_getElem?, Array.getElem?_eq_getElem hj, Option.getD_some]
      exact k3 _ (Array.getElem_mem _)
    · have hj : j < cv.size := by rw [k2]; exact (List.getElem?_eq_some_iff.1 hx).1
      simp only [Array.getD_eq_getD_getElem?, Array.getElem?_eq_getElem hj, Option.getD_some]
      exact (k4 j x _ hx (Array.getElem?_eq_getElem hj)).mono hU.2

end
end Go.AW

/-
  AW, part 13: append.
-/
namespace Go.AW
open Go Go.RowKit
set_option linter.unusedVariables false
set_option linter.unusedSimpArgs false

section
variable {P : Program} {N : Nat} {rd : Option Nat} {o : Oper} {en : Env} {mk : List Nat} {st : List AO} {K : AV → List AO → Prop} {c : Cx} {a : Act}

/-- Append to a slice without room: a new row. -/
theorem app_grow {w : World} {t ty e : TypeId} {i : TypeInfo} {z : Value} (ht : P.underlying t = some (.slice e)) (hi : P.info? e = some i) (hz : i.zero = some z) (hzs : z.cells.size = i.size)
    {ax : Option Addr} {n cp : Nat} {olds : List Value} (hax : ax = none → n = 0 ∧ cp = 0) (hol : olds.length = n * i.size) (hcx : ∀ ad, ax = some ad → ∀ (j : Nat) u, olds[j]? = some u → w.cell? (ad.add j) = some u)
    {ad : Addr} {m cy : Nat} {news : List Value} (hnl : news.length = m * i.size) (hcy : ∀ (j : Nat) u, news[j]? = some u → w.cell? (ad.add j) = some u)
    (hm : 0 < m) (hg : cp < n + m) (hb : (n + m) * i.bytes ≤ 140737488355328) (hb' : n + m ≤ 140737488355328) :
    ∃ C arr, (Builtin.append_ #[t, t] ty #[.slice ax n cp, .slice (some ad) m cy]).run P w = .ok (.slice (some ⟨w.heap.size, 0, none⟩) (n + m) C) (w.drew.alloc (.cells arr e)) ∧
      n + m ≤ C ∧ C ≤ maxLen ∧ arr.size = C * i.size ∧ arr.toList.take ((n + m) * i.size) = olds ++ news := by
  have fin : ∀ C, n + m ≤ C → (olds.toArray ++ news.toArray ++ Builtin.zeroCells z.cells (C - (n + m))).size = C * i.size ∧
      (olds.toArray ++ news.toArray ++ Builtin.zeroCells z.cells (C - (n + m))).toList.take ((n + m) * i.size) = olds ++ news := by
    intro C hC
    constructor
    · simp only [Array.size_append, List.size_toArray, size_zeroCells, hzs, hol, hnl]
      rw [← Nat.add_mul, ← Nat.add_mul]; congr 1; omega
    · simp only [Array.toList_append, List.append_assoc]
      rw [← List.append_assoc, List.take_append_of_le_length (by simp [hol, hnl, Nat.add_mul])]
      rw [List.take_of_length_le (by simp [hol, hnl, Nat.add_mul])]
  have hml : n + m ≤ maxLen := by unfold maxLen; omega
  cases ax with
  | none =>
    obtain ⟨rfl, rfl⟩ := hax rfl
    have h0 : olds = [] := List.eq_nil_of_length_eq_zero (by simpa using hol)
    subst h0
    have hr := run_append_nil (P := P) (w := w) (ty := ty) t e i z ht hi hz ad m cy news hnl hcy hm (by omega) (by have := hb; simp only [Nat.zero_add] at this; omega)
    have hge : m ≤ grownCap w m 0 e := grownCap_ge w m 0 e
    have hf := fin (grownCap w m 0 e) (by omega)
    simp only [Nat.zero_add] at hf ⊢
    refine ⟨grownCap w m 0 e, news.toArray ++ Builtin.zeroCells z.cells (grownCap w m 0 e - m), hr, hge, grownCap_le_maxLen w m 0 e (by omega), ?_, ?_⟩
    · simpa using hf.1
    · simpa using hf.2
  | some b =>
    have hr := run_append_grow (P := P) (w := w) (ty := ty) t e i z ht hi hz b n cp olds hol (hcx b rfl) ad m cy news hnl hcy hg (by omega) (growslice_fits hg hb)
    exact ⟨grownCap w (n + m) cp e, _, hr, grownCap_ge _ _ _ _, grownCap_le_maxLen _ _ _ _ hml, (fin _ (grownCap_ge _ _ _ _)).1, (fin _ (grownCap_ge _ _ _ _)).2⟩

/-- Append of nothing. -/
theorem app_none {w : World} {t ty e : TypeId} {i : TypeInfo} (ht : P.underlying t = some (.slice e)) (hi : P.info? e = some i) {ax ay : Option Addr} {n cp cy : Nat} (hn : n ≤ cp) (hne : ∀ k, P.underlying t ≠ some (.int k)) :
    (Builtin.append_ #[t, t] ty #[.slice ax n cp, .slice ay 0 cy]).run P w = .ok (.slice ax n cp) w := by
  have hl0 : ∀ ad, (loadCells ad 0).run P w = .ok #[] w := fun ad => rfl
  have hs0 : ∀ ad, (storeCells ad []).run P w = .ok () w := fun ad => rfl
  cases ay <;> cases ax <;> simp [Builtin.append_, run_under ht, run_size hi, Builtin.lenOf, hn, Builtin.firstCells, hl0, hs0]

/-- What lies in a row, as abstract cells. -/
theorem rowOR {c' : Cx} {g : Nat} {v : Value} {e sz : Nat} {xs : List AV} {vals : List Value} (h0 : 0 < sz) (hb : xs.length ≤ 140737488355328) (hp : ∀ x ∈ xs, x.pure1 = true) (hs : ∀ x ∈ xs, x.cells.length = sz)
    (hρ : c'.ρ[g]? = some v) (hrow : Row c'.w e sz v xs.length vals) (h1 : ∀ u ∈ vals, u.oneCell' = true) (hv : ∀ (j : Nat) x u, (flat xs)[j]? = some x → vals[j]? = some u → VR c' x u) : OR c' g (.acc e sz xs) :=
  ⟨⟨h0, hb⟩, hp, hs, v, vals, hρ, .inr hrow, by rw [hrow.1, flat_len hs], h1, hv⟩

theorem flat_append (xs ys : List AV) : flat (xs ++ ys) = flat xs ++ flat ys := by simp [flat, List.flatMap_append]

theorem rd_slice {s : AV} {ys : List AV} {v : Value} (hv : VR c s v) (hr : rdA c.st s = some ys) : ∃ ay cy, v = .slice ay ys.length cy ∧ ys.length ≤ cy ∧ (ay = none → ys.length = 0) := by
  cases s with
  | sl cb zs =>
    cases hv with
    | sl sz vals hn hc hcl hm hb ha => simp [rdA] at hr; subst hr; subst hn; exact ⟨_, _, rfl, hc, fun h => by have := ha h; omega⟩
  | acc g' n' =>
    cases hv with
    | acc hg ha hm hc =>
      simp only [rdA] at hr
      split at hr
      · split at hr
        · rename_i hnn; injection hr with hr; subst hr; subst hnn; exact ⟨_, _, rfl, hc.1, ha.1⟩
        · cases hr
      · cases hr
  | av g' N' sz' lo' n' =>
    cases hv with
    | av hg hm hs =>
      obtain ⟨a, cp, rfl, h1, h2, h3, _⟩ := hs
      simp only [rdA] at hr
      split at hr
      · split at hr
        · rename_i hnn
          injection hr with hr; subst hr
          have hl : ∀ xs : List AV, lo' + n' ≤ xs.length → ((xs.drop lo').take n').length = n' := fun xs h => by simp; omega
          rw [hl _ (by omega)]
          exact ⟨_, _, rfl, h1, fun h => by have := h3 h; omega⟩
        · cases hr
      · cases hr
  | _ => simp [rdA] at hr

/-- The cells of what a slice reads as, as a list of values. -/
theorem rd_vals (hW : WR c) {s : AV} {xs : List AV} {ad : Option Addr} {n cp sz : Nat} (hv : VR c s (.slice ad n cp)) (hr : rdA c.st s = some xs) (hsz : ∀ x ∈ xs, x.cells.length = sz) :
    n = xs.length ∧ ∃ vals : List Value, vals.length = n * sz ∧ (∀ u ∈ vals, u.oneCell' = true) ∧ (∀ (j : Nat) x u, (flat xs)[j]? = some x → vals[j]? = some u → VR c x u) ∧
      ∀ b, ad = some b → ∀ (j : Nat) u, vals[j]? = some u → c.w.cell? (b.add j) = some u := by
  obtain ⟨hn, sz0, hsz0, hc⟩ := rd_cells hW hv hr
  refine ⟨hn, ?_⟩
  have hfl := flat_len hsz
  cases had : ad with
  | none =>
    subst had
    have h0 : n = 0 := by
      cases hv with
      | sl sz vals hn hc hcl hm hb ha => have := ha rfl; omega
      | acc hg ha => exact ha.1 rfl
      | av hg hm hs => obtain ⟨a, cp, he, h1, h2, h3, _⟩ := hs; injection he with he1 he2 he3; have := h3 he1.symm; omega
      | any => simp [rdA] at hr
      | sc => simp [rdA] at hr
    subst h0
    have : xs = [] := List.eq_nil_of_length_eq_zero hn.symm
    subst this
    exact ⟨[], by simp, by simp, by simp, fun b h => by cases h⟩
  | some b =>
    have hex : ∀ j, j < n * sz → ∃ u, c.w.cell? (b.add j) = some u ∧ u.oneCell' = true ∧ ∀ x, (flat xs)[j]? = some x → VR c x u := fun j hj => by
      have hjl : j < (flat xs).length := by rw [hfl, ← hn]; exact hj
      obtain ⟨u, h1, h2, h3, h4⟩ := hc b j _ had (List.getElem?_eq_getElem hjl)
      refine ⟨u, ?_, h3, fun x hx => ?_⟩
      · obtain ⟨bb, bo, bs⟩ := b
        simp only at h1; subst h1
        rw [pointer_add]; exact h2
      · rw [List.getElem?_eq_getElem hjl] at hx
        injection hx with hx; subst hx; exact h4
    let vals : List Value := List.ofFn (n := n * sz) fun k => Classical.choose (hex k.1 k.2)
    have hvs : ∀ (k : Nat) u, vals[k]? = some u → ∃ hk : k < n * sz, u = Classical.choose (hex k hk) := fun k u hu => by
      have hk : k < n * sz := by have := (List.getElem?_eq_some_iff.1 hu).1; simpa [vals] using this
      refine ⟨hk, ?_⟩
      rw [List.getElem?_eq_getElem (by simpa [vals] using hk)] at hu
      injection hu with hu
      rw [← hu]; simp [vals]
    refine ⟨vals, by simp [vals], fun u hu => ?_, fun j x u hx hu => ?_, fun b' hb' j u hu => ?_⟩
    · obtain ⟨k, hk, rfl⟩ := List.getElem_of_mem hu
      obtain ⟨hk', he⟩ := hvs k _ (List.getElem?_eq_getElem hk)
      rw [he]; exact (Classical.choose_spec (hex k hk')).2.1
    · obtain ⟨hk, rfl⟩ := hvs j u hu
      exact (Classical.choose_spec (hex j hk)).2.2 x hx
    · injection hb' with hb'; subst hb'
      obtain ⟨hk, rfl⟩ := hvs j u hu
      exact (Classical.choose_spec (hex j hk)).1


theorem own_of_row {w : World} {e sz : Nat} {v : Value} {n : Nat} {vals : List Value} (h : Row w e sz v n vals) : ∃ g cap cur, v = Value.slice (some ⟨g, 0, none⟩) n cap ∧ cap ≠ 0 ∧ w.heap[g]? = some (.cells cur e (0, 0)) ∧ n ≤ cap ∧ cap ≤ maxLen ∧ cur.size = cap * sz ∧ cur.toList.take (n * sz) = vals := h.2

/-- Cells of two lists, one behind the other. -/
theorem vr_append {xs ys : List AV} {sz : Nat} {c' : Cx} {olds news : List Value} (hxs : ∀ x ∈ xs, x.cells.length = sz) (ho : olds.length = xs.length * sz)
    (h1 : ∀ (j : Nat) x u, (flat xs)[j]? = some x → olds[j]? = some u → VR c' x u) (h2 : ∀ (j : Nat) x u, (flat ys)[j]? = some x → news[j]? = some u → VR c' x u) :
    ∀ (j : Nat) x u, (flat (xs ++ ys))[j]? = some x → (olds ++ news)[j]? = some u → VR c' x u := by
  intro j x u hx hu
  rw [flat_append] at hx
  have hf := flat_len hxs
  by_cases hj : j < xs.length * sz
  · rw [List.getElem?_append_left (by omega)] at hx hu
    exact h1 j x u hx hu
  · rw [List.getElem?_append_right (by omega)] at hx hu
    rw [hf] at hx; rw [ho] at hu
    exact h2 _ x u hx hu

/-- What an append to a slice under construction comes to. -/
def AppKey (P : Program) (c : Cx) (ty t : TypeId) (g e sz : Nat) (v0 : Value) (ad : Addr) (nx ny cy : Nat) (olds news : List Value) : Prop :=
  ∃ v' w', (Builtin.append_ #[t, t] ty #[v0, .slice (some ad) ny cy]).run P c.w = .ok v' w' ∧ Row w' e sz v' (nx + ny) (olds ++ news) ∧
          (w'.os = c.w.os ∧ w'.tape = c.w.tape ∧ w'.output = c.w.output) ∧ c.w.heap.size ≤ w'.heap.size ∧ (∀ k, k < c.w.heap.size → ¬ Owns c g k → w'.heap[k]? = c.w.heap[k]?) ∧
          (∃ ax cp ax' cp', v0 = .slice ax nx cp ∧ v' = .slice ax' (nx + ny) cp') ∧ (∀ b, hblk v' = some b → Owns c g b ∨ (c.w.heap.size ≤ b ∧ b < w'.heap.size))

/-- **append**: onto a slice under construction. -/
theorem ops_app_acc {cl : Call} {x y : Operand} {e sz bytes g n : Nat} {xs ys : List AV} (ho : o.op = .call cl) (hcal : cl.callee = .builtin .append) (hd : dec P o = .app e sz bytes x y)
    (hx : opA en x = .acc g n) (hg : st[g]? = some (.acc e sz xs)) (hn : n = xs.length) (hy : rdA st (opA en y) = some ys) (hp : ∀ y ∈ ys, y.pure1 = true) (hs : ∀ y ∈ ys, y.cells.length = sz)
    (hb : (xs.length + ys.length) * bytes ≤ 140737488355328) (hb' : xs.length + ys.length ≤ 140737488355328) (hK : K (.acc g (n + ys.length)) (st.set g (.acc e sz (xs ++ ys)))) : OpS P N rd o en mk st K := by
  refine ops_run (by simp [ho]) (fun w ρ D a hW hE => ?_)
  simp only [dec, ho, hcal] at hd
  split at hd
  case h_2 => cases hd
  rename_i x' y' t t' hargs htys
  split at hd
  case isFalse => cases hd
  rename_i htt
  subst htt
  split at hd
  case h_2 => cases hd
  rename_i e' hu
  split at hd
  case h_2 => cases hd
  rename_i i hi
  split at hd
  case h_2 => cases hd
  rename_i z hz
  split at hd
  case isFalse => cases hd
  rename_i hcond
  injection hd with d1 d2 d3 d4 d5
  subst d1; subst d2; subst d3; subst d4; subst d5
  have hA : cl.args = #[x', y'] := by rw [← Array.toList_inj]; simpa using hargs
  have hT : cl.argTypes = #[t, t] := by rw [← Array.toList_inj]; simpa using htys
  have hex : execOp a.eval o = (do pure (.value (← Builtin.append_ #[t, t] o.type #[a.eval x', a.eval y'])) : Sem Next) := by
    simp [execOp, ho, resolve, hcal, hA, hT, invoke, builtin]
  have hxv := hE.opA (a := a) x'
  have hyv := hE.opA (a := a) y'
  rw [hx] at hxv
  obtain ⟨k1, k2, k3, v0, olds, k4, k5, k6, k7, k8⟩ := hW.obj g _ hg
  simp only at k4
  have hxe : a.eval x' = v0 := by
    generalize a.eval x' = v at hxv
    cases hxv with
    | acc hgl ha hm hc hh =>
      obtain ⟨_, h2⟩ := hh e' i.size xs hg
      have := h2 hn.symm
      simp only at this
      rw [k4] at this
      injection this with this; exact this.symm
  -- what is appended
  obtain ⟨ay, cy, hye, _, hay⟩ := rd_slice (c := ⟨w, ρ, D, st⟩) hyv hy
  rw [hye] at hyv
  obtain ⟨_, news, n1, n2, n3, n4⟩ := rd_vals (c := ⟨w, ρ, D, st⟩) hW hyv hy hs
  have hpxy : ∀ q ∈ xs ++ ys, q.pure1 = true := fun q hq => by
    rcases List.mem_append.1 hq with h | h
    · exact k2 q h
    · exact hp q h
  have hsxy : ∀ q ∈ xs ++ ys, q.cells.length = i.size := fun q hq => by
    rcases List.mem_append.1 hq with h | h
    · exact k3 q h
    · exact hs q h
  have hgl : g < ρ.length := (List.getElem?_eq_some_iff.1 k4).1
  by_cases hm0 : ys.length = 0
  · -- nothing is appended
    have hys : ys = [] := List.eq_nil_of_length_eq_zero hm0
    subst hys
    have hv0 : ∃ ax cp, v0 = .slice ax n cp ∧ n ≤ cp := by
      rcases k5 with ⟨ax, rfl, rfl, _⟩ | hrow
      · exact ⟨ax, 0, by simp [hn], by simp [hn]⟩
      · obtain ⟨bk, cap, cur, hv, _, _, hnc, _⟩ := hrow.2
        exact ⟨_, cap, by rw [hv, hn], by omega⟩
    obtain ⟨ax, cp, hv0, hncp⟩ := hv0
    have hset : st.set g (.acc e' i.size (xs ++ [])) = st := by
      apply List.ext_getElem?; intro k
      rw [List.getElem?_set]
      split
      · rename_i h; subst h; rw [hg]; simp [(List.getElem?_eq_some_iff.1 hg).1]
      · rfl
    rw [hset] at hK
    refine ⟨v0, _, w, ρ, D, st, .inl ?_, hW, ?_, .refl _, hK⟩
    · rw [hex, Sem.run_bind, hxe, hv0, hye]
      simp only [List.length_nil]
      rw [app_none hu hi hncp (by rw [hu]; simp)]
      rfl
    · rw [hxe] at hxv; simpa using hxv
  · have hmpos : 0 < ys.length := by omega
    cases ay with
    | none =>
      have := hay rfl; omega
    | some ad =>
      have hnews := n4 ad rfl
      -- the new handle, the new world
      have key : AppKey P ⟨w, ρ, D, st⟩ o.type t g e' i.size v0 ad xs.length ys.length cy olds news := by
        have grow : ∀ ax cp, v0 = .slice ax xs.length cp → cp < xs.length + ys.length → olds.length = xs.length * i.size → (ax = none → xs.length = 0 ∧ cp = 0) →
            (∀ b, ax = some b → ∀ (j : Nat) u, olds[j]? = some u → w.cell? (b.add j) = some u) → AppKey P ⟨w, ρ, D, st⟩ o.type t g e' i.size v0 ad xs.length ys.length cy olds news := fun ax cp hv hlt hol hax hcx => by
          obtain ⟨C, arr, r1, r2, r3, r4, r5⟩ := app_grow (P := P) (ty := o.type) (cy := cy) hu hi hz hcond.2 hax hol hcx n1 hnews hmpos hlt hb hb'
          refine ⟨.slice (some ⟨w.heap.size, 0, none⟩) (xs.length + ys.length) C, w.drew.alloc (.cells arr e'), by rw [hv]; exact r1, ⟨by simp [hol, n1, Nat.add_mul], w.heap.size, C, arr, by simp, by omega, ?_, by simpa using r2, r3, r4, by simpa using r5⟩, ⟨rfl, rfl, rfl⟩, by simp, fun k hk _ => ?_, ⟨ax, cp, _, C, hv, rfl⟩, fun b hb => ?_⟩
          · exact World.alloc_heap_new w.drew _
          · exact Below.heap_alloc w.drew _ k hk
          · simp [hblk] at hb; subst hb; exact .inr ⟨Nat.le_refl _, by simp⟩
        rcases k5 with ⟨ax, hv, rfl, rfl⟩ | hrow
        · exact grow ax 0 hv (by simpa using hmpos) (by simp) (fun _ => ⟨rfl, rfl⟩) (fun b hb j u hu => by simp at hu)
        · obtain ⟨hol, bk, cap, cur, hv, hc0, hheap, hnc, hcm, hcur, htk⟩ := hrow
          have hown : Owns ⟨w, ρ, D, st⟩ g bk := ⟨_, v0, hg, rfl, k4, by rw [hv]; rfl, fun _ _ _ _ a n cp he => by rw [hv] at he; injection he with _ _ h3; omega⟩
          have hcx : ∀ b, some (⟨bk, 0, none⟩ : Addr) = some b → ∀ (j : Nat) u, olds[j]? = some u → w.cell? (b.add j) = some u := fun b hb j u hu => by
            injection hb with hb; subst hb
            rw [pointer_add, Nat.zero_add, cell_of_row w bk j cur e' (0, 0) hheap]
            rw [← htk, List.getElem?_take] at hu
            split at hu
            · simpa only [Array.getElem?_toList] using hu
            · cases hu
          by_cases hroom : xs.length + ys.length ≤ cap
          · have hfit : xs.length * i.size + news.length ≤ cur.size := by
              rw [n1, hcur, ← Nat.add_mul]; exact Nat.mul_le_mul_right _ hroom
            have hr := run_append_room (P := P) (w := w) (ty := o.type) t e' i hu hi bk xs.length cap cur hheap ad ys.length cy news n1 hnews n2 hroom hfit
            refine ⟨_, _, by rw [hv]; exact hr, ⟨by simp [hol, n1, Nat.add_mul], bk, cap, _, by simp, hc0, setRow_heap w bk cur _ e' (0, 0) hheap, by simpa using hroom, hcm, ?_, ?_⟩, ⟨rfl, rfl, rfl⟩, by simp, fun k hk hnk => setRow_other w bk k _ (fun e => hnk (e ▸ hown)),
              ⟨_, cap, _, cap, hv, rfl⟩, fun b hb => .inl (by simp [hblk] at hb; exact hb ▸ hown)⟩
            · simp; omega
            · have hl1 : (cur.toList.take (xs.length * i.size)).length = xs.length * i.size := by rw [htk, hol]
              rw [htk]
              simp only [List.length_append]
              rw [List.take_append_of_le_length (by simp [hol, n1, Nat.add_mul]), List.take_of_length_le (by simp [hol, n1, Nat.add_mul])]
          · exact grow _ cap hv (by omega) hol (fun h => by cases h) hcx
      obtain ⟨v', w', r1, r2, r3, r4, r5, ⟨ax, cp, ax', cp', r6, r7⟩, r8⟩ := key
      have hU := WR.upd (c := ⟨w, ρ, D, st⟩) hW (i := g) (o := .acc e' i.size (xs ++ ys)) (h := v') (w' := w') hg k4 r3 r4 r5 (.inr ⟨_, _, _, _, _, _, r6, r7⟩)
        (fun e sz xs' he => by
          injection he with h1 h2 h3
          subst h3
          refine ⟨xs, by rw [h1, h2], by simp, fun hl => ?_⟩
          rw [List.length_append] at hl; omega)
        (fun b hb _ _ => r8 b hb)
        (fun c' e1 e2 e3 e4 hx => by
          refine rowOR k1.1 (by simpa using hb') hpxy hsxy (v := v') (vals := olds ++ news) (by rw [e3]; simp [List.getElem?_set, hgl]) (by rw [e1, List.length_append]; exact r2) (fun u hu => ?_) ?_
          · rcases List.mem_append.1 hu with h | h
            · exact k7 u h
            · exact n2 u h
          · refine vr_append k3 (by rw [k6, flat_len k3]) (fun j x u h1 h2 => (k8 j x u h1 h2).mono hx) (fun j x u h1 h2 => (n3 j x u h1 h2).mono hx))
      refine ⟨v', _, w', _, _, _, .inl ?_, hU.1, ?_, hU.2, hK⟩
      · rw [hex, Sem.run_bind, hxe, hye, r1]; rfl
      · obtain ⟨bk, cap, cur, hv, hc0, hheap, hnc, hcm, hcur, htk⟩ := r2.2
        rw [hv]
        rw [hn]
        refine .acc (by simpa using hgl) ⟨(fun h => by cases h), (fun b hb _ => by injection hb with hb; rw [← hb])⟩ (by omega) ⟨hnc, hcm⟩ (fun e sz zs hz => ?_)
        simp only [List.getElem?_set] at hz
        have hgs : g < st.length := (List.getElem?_eq_some_iff.1 hg).1
        simp [hgs] at hz
        obtain ⟨_, _, rfl⟩ := hz
        refine ⟨by simp, fun _ => ?_⟩
        simp [List.getElem?_set, hgl, hv]

end
end Go.AW

/-
  AW, part 14: append to a slice without room; operations, whole.
-/
namespace Go.AW
open Go Go.RowKit
set_option linter.unusedVariables false
set_option linter.unusedSimpArgs false

section
variable {P : Program} {N : Nat} {rd : Option Nat} {o : Oper} {en : Env} {mk : List Nat} {st : List AO} {K : AV → List AO → Prop} {c : Cx} {a : Act}

theorem dec_app {cl : Call} {x y : Operand} {e sz bytes : Nat} (ho : o.op = .call cl) (hcal : cl.callee = .builtin .append) (hd : dec P o = .app e sz bytes x y) :
    ∃ t i z, P.underlying t = some (.slice e) ∧ P.info? e = some i ∧ i.zero = some z ∧ 0 < i.size ∧ z.cells.size = i.size ∧ sz = i.size ∧ bytes = i.bytes ∧
      ∀ a : Act, execOp a.eval o = (do pure (.value (← Builtin.append_ #[t, t] o.type #[a.eval x, a.eval y])) : Sem Next) := by
  simp only [dec, ho, hcal] at hd
  split at hd
  case h_2 => cases hd
  rename_i x' y' t t' hargs htys
  split at hd
  case isFalse => cases hd
  rename_i htt
  subst htt
  split at hd
  case h_2 => cases hd
  rename_i e' hu
  split at hd
  case h_2 => cases hd
  rename_i i hi
  split at hd
  case h_2 => cases hd
  rename_i z hz
  split at hd
  case isFalse => cases hd
  rename_i hcond
  injection hd with d1 d2 d3 d4 d5
  subst d1; subst d2; subst d3; subst d4; subst d5
  have hA : cl.args = #[x', y'] := by rw [← Array.toList_inj]; simpa using hargs
  have hT : cl.argTypes = #[t, t] := by rw [← Array.toList_inj]; simpa using htys
  exact ⟨t, i, z, hu, hi, hz, hcond.1, hcond.2, rfl, rfl, fun a => by simp [execOp, ho, resolve, hcal, hA, hT, invoke, builtin]⟩

/-- **append**: onto a slice without room. -/
theorem ops_app_clip {cl : Call} {x y : Operand} {e sz bytes : Nat} {xs ys : List AV} (ho : o.op = .call cl) (hcal : cl.callee = .builtin .append) (hd : dec P o = .app e sz bytes x y)
    (hx : opA en x = .sl true xs) (hy : rdA st (opA en y) = some ys) (hxs : ∀ y ∈ xs, y.cells.length = sz) (hp : ∀ y ∈ ys, y.pure1 = true) (hs : ∀ y ∈ ys, y.cells.length = sz) (hne : ys ≠ [])
    (hb : (xs.length + ys.length) * bytes ≤ 140737488355328) (hb' : xs.length + ys.length ≤ 140737488355328)
    (hK : K (.acc st.length (xs.length + ys.length)) (st ++ [.acc e sz (xs ++ ys)])) : OpS P N rd o en mk st K := by
  obtain ⟨t, i, z, hu, hi, hz, hsz0, hzs, rfl, rfl, hex⟩ := dec_app ho hcal hd
  refine ops_run (by simp [ho]) (fun w ρ D a hW hE => ?_)
  have hxv := hE.opA (a := a) x
  have hyv := hE.opA (a := a) y
  obtain ⟨ay, cy, hye, _, hay⟩ := rd_slice (c := ⟨w, ρ, D, st⟩) hyv hy
  rw [hye] at hyv
  obtain ⟨_, news, n1, n2, n3, n4⟩ := rd_vals (c := ⟨w, ρ, D, st⟩) hW hyv hy hs
  have hrx : rdA st (opA en x) = some xs := by rw [hx]; rfl
  obtain ⟨ax, cx, hxe, _, hax⟩ := rd_slice (c := ⟨w, ρ, D, st⟩) hxv hrx
  rw [hxe] at hxv
  obtain ⟨_, olds, o1, o2, o3, o4⟩ := rd_vals (c := ⟨w, ρ, D, st⟩) hW hxv hrx hxs
  have hcx : cx = xs.length ∧ (∀ y ∈ xs, y.pure1 = true) := by
    rw [hx] at hxv
    cases hxv with
    | sl sz vals hn hc hcl hm hb ha hsp hpp => exact ⟨hcl rfl, hpp⟩
  obtain ⟨rfl, hpx⟩ := hcx
  have hpxy : ∀ q ∈ xs ++ ys, q.pure1 = true := fun q hq => by
    rcases List.mem_append.1 hq with h | h
    · exact hpx q h
    · exact hp q h
  have hsxy : ∀ q ∈ xs ++ ys, q.cells.length = i.size := fun q hq => by
    rcases List.mem_append.1 hq with h | h
    · exact hxs q h
    · exact hs q h
  have hl : ρ.length = st.length := hW.len
  by_cases hm0 : ys.length = 0
  · exact absurd (List.eq_nil_of_length_eq_zero hm0) hne
  · have hmpos : 0 < ys.length := by omega
    cases ay with
    | none => have := hay rfl; omega
    | some ad =>
      obtain ⟨C, arr, r1, r2, r3, r4, r5⟩ := app_grow (P := P) (ty := o.type) (cy := cy) (w := w) hu hi hz hzs (ax := ax) (n := xs.length) (cp := xs.length) (fun h => ⟨hax h, hax h⟩) o1 (fun b hb => o4 b hb) n1 (n4 ad rfl) hmpos (by omega) hb hb'
      let v' : Value := .slice (some ⟨w.heap.size, 0, none⟩) (xs.length + ys.length) C
      have hrow : Row (w.drew.alloc (.cells arr e)) e i.size v' (xs.length + ys.length) (olds ++ news) :=
        ⟨by simp [o1, n1, Nat.add_mul], w.heap.size, C, arr, rfl, by omega, World.alloc_heap_new w.drew _, r2, r3, r4, r5⟩
      have hU := WR.push (c := ⟨w, ρ, D, st⟩) hW ((Grew.drew w).trans (Grew.alloc w.drew (.cells arr e))) v' (.acc e i.size (xs ++ ys)) (fun b hb _ _ => by simp [v', hblk] at hb; subst hb; simp)
        (fun c' e1 e2 e3 e4 hx => by
          refine rowOR hsz0 (by simpa using hb') hpxy hsxy (v := v') (vals := olds ++ news) (by rw [e3, ← hl]; simp) (by rw [e1, List.length_append]; exact hrow) (fun u hu => ?_) ?_
          · rcases List.mem_append.1 hu with h | h
            · exact o2 u h
            · exact n2 u h
          · exact vr_append hxs o1 (fun j x u h1 h2 => (o3 j x u h1 h2).mono hx) (fun j x u h1 h2 => (n3 j x u h1 h2).mono hx))
      refine ⟨v', _, _, _, _, _, .inl ?_, hU.1, ?_, hU.2, hK⟩
      · rw [hex, Sem.run_bind, hxe, hye, r1]; rfl
      · refine .acc (by simp [hl]) ⟨(fun h => by cases h), (fun b hb _ => by injection hb with hb; rw [← hb])⟩ (by omega) ⟨r2, r3⟩ (fun e sz zs hz => ?_)
        simp at hz
        obtain ⟨_, _, rfl⟩ := hz
        refine ⟨by simp, fun _ => ?_⟩
        simp only [← hl]; simp [v']

/-- append of nothing, onto a slice without room. -/
theorem ops_app_none {cl : Call} {x y : Operand} {e sz bytes : Nat} {xs : List AV} (ho : o.op = .call cl) (hcal : cl.callee = .builtin .append) (hd : dec P o = .app e sz bytes x y)
    (hx : opA en x = .sl true xs) (hy : rdA st (opA en y) = some []) (hK : K (.sl true xs) st) : OpS P N rd o en mk st K := by
  obtain ⟨t, i, z, hu, hi, hz, hsz0, hzs, rfl, rfl, hex⟩ := dec_app ho hcal hd
  refine ops_run (by simp [ho]) (fun w ρ D a hW hE => ?_)
  have hxv := hE.opA (a := a) x
  rw [hx] at hxv
  obtain ⟨ay, cy, hye, _⟩ := rd_slice (c := ⟨w, ρ, D, st⟩) (hE.opA (a := a) y) hy
  obtain ⟨ax, cx, hxe, hcx, _⟩ := rd_slice (c := ⟨w, ρ, D, st⟩) hxv (by rfl)
  refine ⟨a.eval x, _, w, ρ, D, st, .inl ?_, hW, hxv, .refl _, hK⟩
  rw [hex, Sem.run_bind, hxe, hye]
  simp only [List.length_nil]
  rw [app_none hu hi hcx (by rw [hu]; simp)]
  rfl

end
end Go.AW
