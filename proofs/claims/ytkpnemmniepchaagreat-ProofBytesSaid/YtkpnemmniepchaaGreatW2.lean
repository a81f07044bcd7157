/-
  Quiet operations are right.
-/
import Derived.Test.YtkpnemmniepchaaGreatW1
import Derived.Laws.Cells
import Derived.Laws.StructEq
/-
  AW, part 6: what is loaded; the operations that leave the objects alone are right.
-/
namespace Go.AW
open Go Go.RowKit
set_option linter.unusedVariables false
set_option linter.unusedSimpArgs false

section
variable {P : Program} {o : Oper} {c : Cx} {a : Act} {en : Env} {N : Nat} {x : AV}

theorem cells_of {x : AV} {cs : List AV} (h : x.cells? = some cs) : x.cells = cs := by
  cases x <;> simp_all [AV.cells?, AV.cells]

theorem rd_cells (hW : WR c) {s : AV} {xs : List AV} {ad : Option Addr} {n cp : Nat} (hv : VR c s (.slice ad n cp)) (hr : rdA c.st s = some xs) :
    n = xs.length ∧ ∃ sz, (∀ x ∈ xs, x.cells.length = sz) ∧ ∀ a (j : Nat) y, ad = some a → (flat xs)[j]? = some y →
      ∃ u, a.spot = none ∧ c.w.cell? ⟨a.block, a.off + j, none⟩ = some u ∧ u.oneCell' = true ∧ VR c y u := by
  cases hv with
  | any => simp [rdA] at hr
  | sc => simp [rdA] at hr
  | sl sz vals hn hc hcl hm hb ha hsp hp hsz hcell h1 h =>
    simp only [rdA, Option.some.injEq] at hr
    subst hr
    exact ⟨hn, sz, hsz, fun a j y hadd hy => ⟨vals j, (hcell a j y hadd hy).1, (hcell a j y hadd hy).2.2, h1 j y hy, h j y hy⟩⟩
  | @av g N sz lo n' _ hg hm hs hh =>
    obtain ⟨a1, cp1, hv1, hn1, _⟩ := hs
    injection hv1 with hv1 hv2 hv3
    subst hv1; subst hv2; subst hv3
    simp only [rdA] at hr
    split at hr
    case h_2 => cases hr
    rename_i e sz' xs' hst
    split at hr
    case isFalse => cases hr
    rename_i hn
    obtain ⟨rfl, rfl, hle⟩ := hn
    injection hr with hr; subst hr
    obtain ⟨k1, k2, k3, v0, vals, k4, k5, k6, k7, k8⟩ := hW.obj g _ hst
    refine ⟨by simp; omega, sz', fun x hx => k3 x (List.mem_of_mem_drop (List.mem_of_mem_take hx)), fun a j y hadd hy => ?_⟩
    have hy' := flat_sub k3 hy
    have hpos : 0 < n := by
      rcases Nat.eq_zero_or_pos n with h0 | h0
      · subst h0; simp [flat] at hy
      · exact h0
    obtain ⟨l1, l2, l3⟩ := hh e xs' hst
    obtain ⟨b, cpb, l4, a', l5, l6⟩ := l3 rfl
    rw [k4] at l4
    injection l4 with l4; subst l4
    injection l5 with l5 _ l7; subst l5
    obtain ⟨ad', rfl, l8⟩ := l6 (by omega)
    rw [hadd] at l8; injection l8 with l8; subst l8
    have hjl : lo * sz' + j < vals.length := by rw [k6]; exact (List.getElem?_eq_some_iff.1 hy').1
    rcases k5 with ⟨a', hv, rfl, rfl⟩ | hown
    · simp at hjl
    · obtain ⟨hl, bk, cap, cur, hv, _, hheap, hnc, hcm, hcur, htk⟩ := hown
      injection hv with h1 h3 h4
      injection h1 with h1; subst h1
      have hu : vals[lo * sz' + j]? = some vals[lo * sz' + j] := List.getElem?_eq_getElem hjl
      refine ⟨vals[lo * sz' + j], rfl, ?_, k7 _ (List.getElem_mem _), k8 _ y _ hy' hu⟩
      simp only [Nat.zero_add]
      rw [cell_of_row c.w bk _ cur e (0, 0) hheap]
      generalize vals[lo * sz' + j] = u at hu
      rw [← htk, List.getElem?_take] at hu
      split at hu
      · simpa only [Array.getElem?_toList] using hu
      · cases hu
  | @acc g _ _ _ hg ha hm hc hh =>
    simp only [rdA] at hr
    split at hr
    · rename_i e sz xs' hst
      split at hr
      · rename_i hn
        injection hr with hr; subst hr
        obtain ⟨_, h2⟩ := hh e sz xs' hst
        have hρ := h2 hn.symm
        obtain ⟨k1, k2, k3, v0, vals, k4, k5, k6, k7, k8⟩ := hW.obj g _ hst
        rw [k4] at hρ
        injection hρ with hρ; subst hρ
        refine ⟨hn, sz, k3, fun b j y hadd hy => ?_⟩
        subst hadd
        have hjl : j < vals.length := by rw [k6]; exact (List.getElem?_eq_some_iff.1 hy).1
        rcases k5 with ⟨a', hv, rfl, rfl⟩ | hown
        · simp at hjl
        · obtain ⟨hl, bk, cap, cur, hv, _, hheap, hnc, hcm, hcur, htk⟩ := hown
          · injection hv with h1 h3 h4
            injection h1 with h1; subst h1
            have hu : vals[j]? = some vals[j] := List.getElem?_eq_getElem hjl
            refine ⟨vals[j], rfl, ?_, k7 _ (List.getElem_mem _), k8 j y _ hy hu⟩
            simp only [Nat.zero_add]
            rw [cell_of_row c.w bk j cur e (0, 0) hheap]
            generalize vals[j] = u at hu
            rw [← htk, List.getElem?_take] at hu
            split at hu
            · simpa only [Array.getElem?_toList] using hu
            · cases hu
      · cases hr
    · cases hr

theorem load_ok (hW : WR c) {agg : Bool} {n : Nat} {p : AV} {v : Value} (hv : VR c p v) (hl : loadA c.st agg n p = some x) :
    ∃ ad, v = .pointer (some ad) ∧ (agg = true → ∃ arr, (loadCells ad n).run P c.w = .ok arr c.w ∧ VR c x (.agg arr)) ∧ (agg = false → ∃ u, c.w.cell? ad = some u ∧ VR c x u) := by
  have row : ∀ (ad : Addr) (vs : Array Value), ad.spot = none → (∀ (j : Nat) u, vs[j]? = some u → c.w.cell? ⟨ad.block, ad.off + j, none⟩ = some u) → vs.size = n → (loadCells ad n).run P c.w = .ok vs c.w := by
    intro ad vs hs h hn
    have hL : vs.toList.length = n := by simpa using hn
    have := run_loadCells_list (P := P) (w := c.w) ad vs.toList (fun j u hu => by
      have e : ad.add j = ⟨ad.block, ad.off + j, none⟩ := by
        obtain ⟨b, of, s⟩ := ad
        simp only at hs; subst hs
        unfold Addr.add; split <;> simp_all
      rw [e]; exact h j u (by simpa using hu))
    rw [hL] at this
    simpa using this
  cases p with
  | ref i of =>
    cases hv with
    | @ref _ _ b hρ =>
      simp only [loadA] at hl
      split at hl
      · rename_i cs hst
        obtain ⟨b', e, vs, k1, k2, k3, k4, k5⟩ := hW.obj i _ hst
        rw [hρ] at k1
        injection k1 with k1; injection k1 with k1; injection k1 with k1; injection k1 with k1; subst k1
        obtain ⟨p1, p2⟩ := VR.part (c := c) k3.symm k4 k5 hl
        refine ⟨_, rfl, fun ha => ?_, fun ha => ?_⟩
        · obtain ⟨hle, hx⟩ := p1 ha
          refine ⟨_, row _ _ rfl (fun j u hu => ?_) (by simp; omega), hx⟩
          simp only [Array.getElem?_extract] at hu
          split at hu
          · rw [cell_of_row c.w b _ vs e (0, 0) k2]; exact hu
          · cases hu
        · obtain ⟨u, hu, hx⟩ := p2 ha
          exact ⟨u, by rw [cell_of_row c.w b _ vs e (0, 0) k2]; exact hu, hx⟩
      · cases hl
  | ep s sz i of =>
    cases hv with
    | @ep _ _ _ _ n' cp ad hs hi =>
      simp only [loadA] at hl
      split at hl
      · rename_i xs hr
        obtain ⟨hn, sz0, hsz, hc⟩ := rd_cells hW hs hr
        split at hl
        · rename_i e he
          split at hl
          · rename_i cs hcs
            split at hl
            · rename_i hlen
              have hce := cells_of hcs
              have hs0 : sz0 = sz := by rw [← hsz e (List.mem_of_getElem? he), hce]; exact hlen
              subst hs0
              have hg : ∀ k, k < sz0 → (flat xs)[i * sz0 + k]? = cs[k]? := fun k hk => by rw [flat_get hsz he hk, hce]
              have cell : ∀ k y, k < sz0 → cs[k]? = some y → ∃ u, c.w.cell? ⟨ad.block, ad.off + (i * sz0 + k), none⟩ = some u ∧ u.oneCell' = true ∧ VR c y u := fun k y hk hy => by
                obtain ⟨u, _, h2, h3, h4⟩ := hc ad _ y rfl ((hg k hk).trans hy)
                exact ⟨u, h2, h3, h4⟩
              cases agg with
              | true =>
                simp only [if_true] at hl
                split at hl
                · rename_i hle
                  injection hl with hl; subst hl
                  refine ⟨_, rfl, fun _ => ?_, (fun h => nomatch h)⟩
                  -- the cells' values, one after the other
                  have hex : ∀ k, k < n → ∃ u, c.w.cell? ⟨ad.block, ad.off + (i * sz0 + of) + k, none⟩ = some u ∧ u.oneCell' = true ∧ ∀ y, cs[of + k]? = some y → VR c y u := fun k hk => by
                    have hlt : of + k < cs.length := by omega
                    obtain ⟨u, h1, h2, h3⟩ := cell (of + k) cs[of + k] (by omega) (List.getElem?_eq_getElem hlt)
                    refine ⟨u, by rw [← h1]; congr 2; omega, h2, fun y hy => ?_⟩
                    rw [List.getElem?_eq_getElem hlt] at hy
                    injection hy with hy; subst hy; exact h3
                  let vs : Array Value := Array.ofFn (n := n) fun k => Classical.choose (hex k.1 k.2)
                  have hvs : ∀ (k : Nat) u, vs[k]? = some u → ∃ hk : k < n, u = Classical.choose (hex k hk) := fun k u hu => by
                    have hk : k < n := by have := (Array.getElem?_eq_some_iff.1 hu).1; simpa [vs] using this
                    refine ⟨hk, ?_⟩
                    rw [Array.getElem?_eq_getElem (by simpa [vs] using hk)] at hu
                    injection hu with hu
                    rw [← hu]; simp [vs]
                  refine ⟨vs, row _ vs rfl (fun j u hu => ?_) (by simp [vs]), .agg (by simp [vs]; omega) (fun u hu => ?_) (fun k y u hy hu => ?_)⟩
                  · obtain ⟨hk, rfl⟩ := hvs j u hu
                    exact (Classical.choose_spec (hex j hk)).1
                  · obtain ⟨k, hk, rfl⟩ := Array.getElem_of_mem hu
                    obtain ⟨hk', he'⟩ := hvs k _ (Array.getElem?_eq_getElem hk)
                    rw [he']
                    exact (Classical.choose_spec (hex k hk')).2.1
                  · obtain ⟨hk, rfl⟩ := hvs k u hu
                    refine (Classical.choose_spec (hex k hk)).2.2 y ?_
                    simp only [List.getElem?_take, List.getElem?_drop, if_pos hk] at hy
                    exact hy
                · cases hl
              | false =>
                simp only [Bool.false_eq_true, if_false] at hl
                have hlt : of < sz0 := by have := (List.getElem?_eq_some_iff.1 hl).1; omega
                obtain ⟨u, h1, h2, h3⟩ := cell of x hlt hl
                exact ⟨_, rfl, (fun h => nomatch h), fun _ => ⟨u, h1, h3⟩⟩
            · cases hl
          · cases hl
        · cases hl
      · cases hl
  | _ => simp [loadA] at hl

theorem VR.slen_ok {s : AV} {v : Value} {n : Nat} (h : VR c s v) (hs : slen s = some n) : ∃ ad cp, v = .slice ad n cp ∧ ((ad = none → n = 0) ∧ ∀ b, ad = some b → 0 < n → b.spot = none) ∧ n ≤ 140737488355328 ∧ n ≤ cp ∧ cp ≤ maxLen := by
  cases h with
  | sl sz vals hn hc hcl hm hb ha hsp => simp [slen] at hs; subst hs; subst hn; exact ⟨_, _, rfl, ⟨fun h => by have := ha h; omega, hsp⟩, hb, hc, hm⟩
  | acc hg ha hm hc => simp [slen] at hs; subst hs; exact ⟨_, _, rfl, ha, hm, hc.1, hc.2⟩
  | av hg hm hsv =>
    simp [slen] at hs; subst hs
    obtain ⟨a, cp, rfl, h1, h2, h3, h4⟩ := hsv
    exact ⟨_, _, rfl, ⟨fun h => by have := h3 h; omega, fun b hb hp => h4 b hb (by omega)⟩, hm, h1, h2⟩
  | _ => simp [slen] at hs

theorem VR.natA_ok {s : AV} {v : Value} {n : Nat} (h : VR c s v) (hs : natA s = some n) : ∃ k, v = .int k n := by
  cases s with
  | sc u =>
    cases h
    cases v with
    | int k i =>
      simp only [natA] at hs
      split at hs
      · injection hs with hs; exact ⟨k, by congr 1; omega⟩
      · cases hs
    | _ => simp [natA] at hs
  | _ => simp [natA] at hs

end
end Go.AW

/-
  AW, part 7: the operations that leave the objects alone are right.
-/
namespace Go.AW
open Go Go.RowKit
set_option linter.unusedVariables false
set_option linter.unusedSimpArgs false

section
variable {P : Program} {o : Oper} {c : Cx} {a : Act} {en : Env} {N : Nat} {x : AV}

theorem run_eqGuard_quiet (op : BinOp) (t : TypeId) (xo yo : Operand) (u v : Value) (w : World) (h1 : ¬ (u = .nilIface ∧ v = .nilIface)) (h2 : ∀ cs, u ≠ .agg cs) :
    (eqGuard op t xo yo u v).run P w = .ok () w := by
  unfold eqGuard
  cases op <;> simp only [Bool.not_true, Bool.not_false, Bool.false_eq_true, if_false, if_true, Sem.run_pure, Sem.run_bind, Result.andThen, pure_bind] <;> first
    | rfl
    | (cases u <;> first | exact absurd rfl (h2 _) | (cases v <;> first | exact absurd ⟨rfl, rfl⟩ h1 | rfl))

theorem VR.intA {s : AV} {v : Value} {k : IntKind} {n : Int} (h : VR c (.sc (.int k n)) v) : v = .int k n ∧ plainV (.int k n) = true := by
  cases h with | sc h => exact ⟨rfl, h⟩

theorem binI_ok {op : BinOp} {k : IntKind} {p q : Int} {t : TypeId} {w : World} (h1 : plainV (.int k p) = true) (h : binI op k p q = some x) (hs : op ≠ .shl) (hs' : op ≠ .shr) :
    ∃ v, (binOp op t (.int k p) (.int k q)).run P w = .ok v w ∧ VR c x v := by
  cases op <;> simp only [binI, Option.some.injEq] at h <;> first
    | exact absurd rfl hs
    | exact absurd rfl hs'
    | (subst h; exact ⟨_, by simp [binOp, Op.intArith, Op.intBits, Op.intCmp]; done, .sc (by first | exact plain_wrap _ _ | rfl)⟩)
    | (split at h
       · cases h
       · rename_i hq
         injection h with h; subst h
         exact ⟨_, by simp [binOp, Op.intDiv, hq]; done, .sc (by first | exact plain_wrap _ _ | exact plain_tmod _ _ _ h1)⟩)
    | cases h

theorem shI_ok {op : BinOp} {k k' : IntKind} {p q : Int} {t : TypeId} {w : World} (h1 : plainV (.int k p) = true) (ho : op = .shl ∨ op = .shr) (h : shI op k p q = some x) :
    ∃ v, (binOp op t (.int k p) (.int k' q)).run P w = .ok v w ∧ VR c x v := by
  unfold shI at h
  split at h
  · cases h
  · rename_i hq
    rcases ho with rfl | rfl
    · injection h with h; subst h
      exact ⟨_, by simp [binOp, Op.shift, hq]; done, .sc (plain_wrap _ _)⟩
    · injection h with h; subst h
      exact ⟨_, by simp [binOp, Op.shift, hq]; done, .sc (plain_shr _ _ _ h1)⟩

theorem binS_ok {op : BinOp} {p q : ByteArray} {t : TypeId} {w : World} (h : binS op p q = some x) :
    ∃ v, (binOp op t (.string p) (.string q)).run P w = .ok v w ∧ VR c x v := by
  cases op <;> simp only [binS, Option.some.injEq] at h <;> first
    | cases h; done
    | (subst h; exact ⟨_, rfl, .sc rfl⟩)
    | (split at h
       · rename_i hq
         injection h with h; subst h
         refine ⟨.string (p ++ q), ?_, .sc ?_⟩
         · simp only [binOp, Op.stringOp]
           have : ¬ (((p.size + q.size : Nat) : Int) > IntKind.i64.max) := by simp [IntKind.max, IntKind.bits, IntKind.signed]; omega
           rw [if_neg this]; rfl
         · simp [plainV, ByteArray.size_append]; omega
       · cases h)

theorem run_eqp {t e : TypeId} {ad : Addr} {w : World} (ht : P.underlying t = some (.pointer e)) : (binOp .eql t (.pointer (some ad)) (.pointer none)).run P w = .ok (.bool false) w := by
  show (do pure (.bool (← Op.equalIn (9999 + 1) t (.pointer (some ad)) (.pointer none))) : Sem Value).run P w = _
  rw [Sem.run_bind, Op.equalIn, Sem.run_bind, run_under ht]; rfl
theorem run_nep {t e : TypeId} {ad : Addr} {w : World} (ht : P.underlying t = some (.pointer e)) : (binOp .neq t (.pointer (some ad)) (.pointer none)).run P w = .ok (.bool true) w := by
  show (do pure (.bool (!(← Op.equalIn (9999 + 1) t (.pointer (some ad)) (.pointer none)))) : Sem Value).run P w = _
  rw [Sem.run_bind, Op.equalIn, Sem.run_bind, run_under ht]; rfl
theorem run_eqn {t e : TypeId} {w : World} (ht : P.underlying t = some (.pointer e)) : (binOp .eql t (.pointer none) (.pointer none)).run P w = .ok (.bool true) w := by
  show (do pure (.bool (← Op.equalIn (9999 + 1) t (.pointer none) (.pointer none))) : Sem Value).run P w = _
  rw [Sem.run_bind, Op.equalIn, Sem.run_bind, run_under ht]; rfl
theorem run_nen {t e : TypeId} {w : World} (ht : P.underlying t = some (.pointer e)) : (binOp .neq t (.pointer none) (.pointer none)).run P w = .ok (.bool false) w := by
  show (do pure (.bool (!(← Op.equalIn (9999 + 1) t (.pointer none) (.pointer none)))) : Sem Value).run P w = _
  rw [Sem.run_bind, Op.equalIn, Sem.run_bind, run_under ht]; rfl
theorem run_eqb {t : TypeId} {p q : Bool} {w : World} (ht : P.underlying t = some .bool) : (binOp .eql t (.bool p) (.bool q)).run P w = .ok (.bool (p == q)) w := by
  show (do pure (.bool (← Op.equalIn (9999 + 1) t (.bool p) (.bool q))) : Sem Value).run P w = _
  rw [Sem.run_bind, Op.equalIn, Sem.run_bind, run_under ht]; rfl
theorem run_neb {t : TypeId} {p q : Bool} {w : World} (ht : P.underlying t = some .bool) : (binOp .neq t (.bool p) (.bool q)).run P w = .ok (.bool (!(p == q))) w := by
  show (do pure (.bool (!(← Op.equalIn (9999 + 1) t (.bool p) (.bool q)))) : Sem Value).run P w = _
  rw [Sem.run_bind, Op.equalIn, Sem.run_bind, run_under ht]; rfl

theorem binInts_ok {op : BinOp} {k k' : IntKind} {p q : Int} {t : TypeId} {w : World} (h1 : plainV (.int k p) = true) (h : binInts op k p k' q = some x) :
    ∃ v, (binOp op t (.int k p) (.int k' q)).run P w = .ok v w ∧ VR c x v := by
  unfold binInts at h
  split at h
  · exact shI_ok h1 (.inl rfl) h
  · exact shI_ok h1 (.inr rfl) h
  · split at h
    · rename_i e1 e2 hk
      subst hk
      exact binI_ok h1 h (fun e => e1 e) (fun e => e2 e)
    · cases h

theorem binBools_ok {op : BinOp} {td : TypeDesc} {p q : Bool} {t : TypeId} {w : World} (ht : P.underlying t = some td) (h : binBools op td p q = some x) :
    ∃ v, (binOp op t (.bool p) (.bool q)).run P w = .ok v w ∧ VR c x v := by
  unfold binBools at h
  split at h
  · injection h with h; subst h; exact ⟨_, run_eqb ht, .sc rfl⟩
  · injection h with h; subst h; exact ⟨_, run_neb ht, .sc rfl⟩
  · cases h

theorem binPtr_ok {op : BinOp} {td : TypeDesc} {ad : Option Addr} {t : TypeId} {w : World} (ht : P.underlying t = some td) (h : binPtr op td ad.isNone = some x) :
    ∃ v, (binOp op t (.pointer ad) (.pointer none)).run P w = .ok v w ∧ VR c x v := by
  unfold binPtr at h
  cases ad with
  | none =>
    split at h
    · injection h with h; subst h; exact ⟨_, run_eqn ht, .sc rfl⟩
    · injection h with h; subst h; exact ⟨_, run_nen ht, .sc rfl⟩
    · cases h
  | some ad =>
    split at h
    · injection h with h; subst h; exact ⟨_, run_eqp ht, .sc rfl⟩
    · injection h with h; subst h; exact ⟨_, run_nep ht, .sc rfl⟩
    · cases h

theorem bin_ok {op : BinOp} {td : TypeDesc} {X Y : AV} {u v : Value} {t : TypeId} {xo yo : Operand} (hX : VR c X u) (hY : VR c Y v) (h : binA op td X Y = some x) (ht : P.underlying t = some td) :
    ∃ r, ((do eqGuard op t xo yo u v; binOp op t u v) : Sem Value).run P c.w = .ok r c.w ∧ VR c x r := by
  have go : ∀ (hg : ¬ (u = .nilIface ∧ v = .nilIface)) (h2 : ∀ cs, u ≠ .agg cs), (∃ r, (binOp op t u v).run P c.w = .ok r c.w ∧ VR c x r) →
      ∃ r, ((do eqGuard op t xo yo u v; binOp op t u v) : Sem Value).run P c.w = .ok r c.w ∧ VR c x r := by
    rintro hg h2 ⟨r, hr, hx⟩
    exact ⟨r, by rw [Sem.run_bind, run_eqGuard_quiet _ _ _ _ _ _ _ hg h2]; simpa using hr, hx⟩
  unfold binA at h
  split at h
  · cases hX with | sc h1 => cases hY with | sc h2 => exact go (by simp) (by simp) (binInts_ok h1 h)
  · cases hX; cases hY; exact go (by simp) (by simp) (binS_ok h)
  · cases hX; cases hY; exact go (by simp) (by simp) (binBools_ok ht h)
  · cases hX; cases hY; exact go (by simp) (by simp) (binPtr_ok (ad := none) ht h)
  · cases hX; cases hY; exact go (by simp) (by simp) (binPtr_ok (ad := some _) ht h)
  · cases hX; cases hY; exact go (by simp) (by simp) (binPtr_ok (ad := some _) ht h)
  · cases h

end
end Go.AW

/-
  AW, part 8: the operations that leave the objects alone are right (all of them).
-/
namespace Go.AW
open Go Go.RowKit
set_option linter.unusedVariables false
set_option linter.unusedSimpArgs false

section
variable {P : Program} {o : Oper} {c : Cx} {a : Act} {en : Env} {N : Nat} {x : AV}

/-- Parts laid into cells: as the model lays them. -/
theorem fill_ok {place : Nat → Option (Nat × Nat)} : ∀ {l : List (Nat × Value)} {ps : List (Nat × Nat × AV)} {zs : List AV} {zv : Array Value} {cs : List AV},
    l.length = ps.length → (∀ (j : Nat) i v off sz y, l[j]? = some (i, v) → ps[j]? = some (off, sz, y) → place i = some (off, sz) ∧ VR c y v) →
    zv.size = zs.length → (∀ u ∈ zv, u.oneCell' = true) → (∀ (i : Nat) y u, zs[i]? = some y → zv[i]? = some u → VR c y u) → fillA zs ps = some cs →
    ∃ cv, Instr.fill place zv l = some cv ∧ cv.size = cs.length ∧ (∀ u ∈ cv, u.oneCell' = true) ∧ ∀ (i : Nat) y u, cs[i]? = some y → cv[i]? = some u → VR c y u
  | [], [], zs, zv, cs, _, _, hz, h1, hv, hf => by
    simp [fillA] at hf; subst hf
    exact ⟨zv, rfl, hz, h1, hv⟩
  | (i, v) :: l, (off, sz, y) :: ps, zs, zv, cs, hl, hp, hz, h1, hv, hf => by
    simp only [fillA] at hf
    split at hf
    · rename_i vs hvs
      split at hf
      · rename_i hle
        obtain ⟨hpl, hvr⟩ := hp 0 i v off sz y rfl rfl
        obtain ⟨k1, k2, k3⟩ := hvr.cells hvs
        have hfold : ∀ (xs : List Value) (k : Nat) (arr : Array Value), off + k + xs.length ≤ arr.size →
            let r := (xs.zipIdx k).foldl (fun cs (c, j) => cs.setIfInBounds (off + j) c) arr
            r.size = arr.size ∧ ∀ j, r[j]? = if off + k ≤ j ∧ j < off + k + xs.length then xs[j - (off + k)]? else arr[j]? := by
          intro xs
          induction xs with
          | nil => intro k arr _; simp; intro j h1 h2; omega
          | cons x xs ih =>
            intro k arr hle
            simp only [List.zipIdx_cons, List.foldl_cons]
            have hle' : off + (k + 1) + xs.length ≤ (arr.setIfInBounds (off + k) x).size := by simp at hle ⊢; omega
            obtain ⟨s1, s2⟩ := ih (k + 1) (arr.setIfInBounds (off + k) x) hle'
            refine ⟨by rw [s1]; simp, fun j => ?_⟩
            rw [s2 j]
            simp only [List.length_cons]
            by_cases hj : j = off + k
            · subst hj
              rw [if_neg (by omega), if_pos (by omega)]
              simp at hle
              simp [Array.getElem?_setIfInBounds, show off + k < arr.size by omega]
            · by_cases hj2 : off + (k + 1) ≤ j ∧ j < off + (k + 1) + xs.length
              · rw [if_pos hj2, if_pos (by omega)]
                obtain ⟨m, rfl⟩ : ∃ m, j = off + (k + 1) + m := ⟨j - (off + (k + 1)), by omega⟩
                rw [show off + (k + 1) + m - (off + (k + 1)) = m by omega, show off + (k + 1) + m - (off + k) = m + 1 by omega]
                simp
              · rw [if_neg hj2, if_neg (by omega)]
                rw [Array.getElem?_setIfInBounds_ne (Ne.symm hj)]
        have hsz : v.cells.size = sz := by rw [k1]; exact hle.1
        have hbig : off + 0 + v.cells.toList.length ≤ zv.size := by simp; omega
        obtain ⟨s1, s2⟩ := hfold v.cells.toList 0 zv hbig
        have hzip : v.cells.zipIdx.foldl (fun cs (c, j) => cs.setIfInBounds (off + j) c) zv = (v.cells.toList.zipIdx 0).foldl (fun cs (c, j) => cs.setIfInBounds (off + j) c) zv := by
          rw [← Array.foldl_toList]; simp
        have hlen2 : (zs.take off ++ vs ++ zs.drop (off + sz)).length = zs.length := by simp; omega
        have hget : ∀ j, (zs.take off ++ vs ++ zs.drop (off + sz))[j]? = if off ≤ j ∧ j < off + sz then vs[j - off]? else zs[j]? := by
          intro j
          have ht : (zs.take off).length = off := by simp; omega
          by_cases hj1 : j < off
          · rw [List.append_assoc, List.getElem?_append_left (by omega), if_neg (by omega), List.getElem?_take, if_pos hj1]
          · by_cases hj2 : j < off + sz
            · rw [if_pos (by omega), List.append_assoc, List.getElem?_append_right (by omega), ht, List.getElem?_append_left (by omega)]
            · rw [if_neg (by omega), List.getElem?_append_right (by simp; omega), List.getElem?_drop]
              congr 1; simp; omega
        simp only [Nat.add_zero, Array.length_toList, hsz] at s2
        obtain ⟨cv, g1, g2, g3, g4⟩ := fill_ok (place := place) (l := l) (ps := ps) (zv := (v.cells.toList.zipIdx 0).foldl (fun cs (c, j) => cs.setIfInBounds (off + j) c) zv)
          (by simpa using hl) (fun j i v off sz y h1 h2 => hp (j + 1) i v off sz y h1 h2) (by rw [hlen2, ← hz]; exact s1)
          (fun u hu => by
            obtain ⟨j, hj, rfl⟩ := Array.getElem_of_mem hu
            have := s2 j
            rw [Array.getElem?_eq_getElem hj] at this
            split at this
            · exact k2 _ (by simpa using List.mem_of_getElem? this.symm)
            · exact h1 _ (Array.mem_of_getElem? this.symm))
          (fun j y u hy hu => by
            rw [hget] at hy; rw [s2 j] at hu
            split at hu
            · rename_i hc; rw [if_pos hc] at hy; exact k3 _ y u hy (by simpa using hu)
            · rename_i hc; rw [if_neg hc] at hy; exact hv j y u hy hu) hf
        refine ⟨cv, ?_, g2, g3, g4⟩
        simp only [Instr.fill, hpl]
        rw [if_neg (by simp [hsz]; omega), hzip]
        exact g1
      · cases hf
    · cases hf
  | [], _ :: _, _, _, _, hl, _, _, _, _, _ => by simp at hl
  | _ :: _, [], _, _, _, hl, _, _, _, _, _ => by simp at hl

theorem slcA_ok {clip : Bool} {xs : List AV} {v : Value} {lo hi mx : Option AV} {lov hiv mxv : Option Value} {t e : TypeId} {i : TypeInfo}
    (ht : P.underlying t = some (.slice e)) (hi' : P.info? e = some i) (hv : VR c (.sl clip xs) v)
    (hszB : lo = none ∨ ∀ x ∈ xs, x.cells.length = i.size)
    (hlo : ∀ y, lo = some y → ∃ u, lov = some u ∧ VR c y u) (hlo' : lo = none → lov = none)
    (hhi : ∀ y, hi = some y → ∃ u, hiv = some u ∧ VR c y u) (hhi' : hi = none → hiv = none)
    (hmx : ∀ y, mx = some y → ∃ u, mxv = some u ∧ VR c y u) (hmx' : mx = none → mxv = none)
    (h : slcA xs clip lo hi mx = some x) : ∃ r, (Instr.sliceAt t v lov hiv mxv).run P c.w = .ok r c.w ∧ VR c x r := by
  cases hv with
  | @sl _ _ ad n cp sz vals hn hc hcl hm hb ha hsp hp hsz0 hcell h1 hvv =>
  have hrun : (Instr.sliceAt t (.slice ad n cp) lov hiv mxv).run P c.w = (Instr.slice t (.slice ad n cp) lov hiv mxv).run P c.w := by
    unfold Instr.sliceAt; rw [Sem.run_bind, run_under ht]; rfl
  rw [hrun]
  have bound : ∀ (k : IntKind) (q y : Nat) (code : BoundsCode), q ≤ y → (Instr.sliceBound (.int k q) y code).run P c.w = .ok q c.w := fun k q y code hq => by
    have := run_sliceBound (P := P) (w := c.w) k (q : Int) y code (by omega) (by omega)
    simpa using this
  -- the three bounds
  unfold slcA at h
  split at h
  · cases h
  · rename_i m hmEq
    split at h
    · cases h
    · rename_i hh hhEq
      split at h
      · cases h
      · rename_i l hlEq
        split at h
        · rename_i hle
          obtain ⟨hle1, hle2, hle3⟩ := hle
          injection h with h; subst h
          have hL : (lov = none ∧ l = 0) ∨ ∃ k, lov = some (.int k l) := by
            cases lo with
            | none => exact .inl ⟨hlo' rfl, by simpa using hlEq.symm⟩
            | some y =>
              obtain ⟨u, hu, hyu⟩ := hlo y rfl
              obtain ⟨k, rfl⟩ := hyu.natA_ok hlEq
              exact .inr ⟨k, hu⟩
          have hH : (hiv = none ∧ hh = n ∧ mx = none) ∨ ∃ k, hiv = some (.int k hh) := by
            cases hi with
            | none =>
              cases mx with
              | none => exact .inl ⟨hhi' rfl, by simp at hhEq; omega, rfl⟩
              | some _ => simp at hhEq
            | some y =>
              obtain ⟨u, hu, hyu⟩ := hhi y rfl
              obtain ⟨k, rfl⟩ := hyu.natA_ok hhEq
              exact .inr ⟨k, hu⟩
          have hM : (mx = none ∧ mxv = none ∧ m = if clip then some xs.length else none) ∨ ∃ k M, mxv = some (.int k (M : Nat)) ∧ m = some M := by
            cases mx with
            | none => exact .inl ⟨rfl, hmx' rfl, by simpa using hmEq.symm⟩
            | some y =>
              obtain ⟨u, hu, hyu⟩ := hmx y rfl
              cases hmn : natA y with
              | none => simp [hmn] at hmEq
              | some M =>
                simp only [hmn, Option.map_some, Option.some.injEq] at hmEq
                obtain ⟨k, rfl⟩ := hyu.natA_ok hmn
                exact .inr ⟨k, M, hu, hmEq.symm⟩
          have hB : ∃ M, (Instr.sliceBounds true n cp lov hiv mxv).run P c.w = .ok (l, hh, M) c.w ∧ hh ≤ M ∧ M ≤ cp ∧ ((m == some hh) = true → M = hh) := by
            rcases hM with ⟨hm1, hm2, hm3⟩ | ⟨km, M, hm2, hm3⟩
            · refine ⟨cp, ?_, by omega, Nat.le_refl _, fun he => ?_⟩
              · rw [hm2]
                rcases hH with ⟨hh1, hh2, _⟩ | ⟨kh, hh1⟩ <;> rcases hL with ⟨hl1, hl2⟩ | ⟨kl, hl1⟩ <;> rw [hh1, hl1] <;>
                  simp only [Instr.sliceBounds, Sem.run_bind, Sem.run_pure, Result.andThen_ok, if_true] <;> (try rw [bound kh hh cp _ (by omega)]) <;> (try simp only [Result.andThen_ok]) <;>
                  (try rw [bound kl l _ _ (by omega)]) <;> simp [*] <;> omega
              · cases clip with
                | true =>
                  simp only [if_true] at hm3
                  rw [hm3] at he
                  simp at he
                  rw [hcl rfl]; omega
                | false => simp [hm3] at he
            · obtain ⟨h3, h4⟩ := hle3 M hm3
              refine ⟨M, ?_, h3, by omega, fun he => by rw [hm3] at he; simpa using he⟩
              rw [hm2]
              rcases hH with ⟨hh1, hh2, hh3⟩ | ⟨kh, hh1⟩
              · have := hmx' hh3
                rw [hm2] at this; cases this
              · rcases hL with ⟨hl1, hl2⟩ | ⟨kl, hl1⟩ <;> rw [hh1, hl1] <;>
                  simp only [Instr.sliceBounds, Sem.run_bind, Sem.run_pure, Result.andThen_ok, if_true] <;> rw [bound km M cp _ (by omega)] <;> simp only [Result.andThen_ok] <;>
                  rw [bound kh hh M _ (by omega)] <;> (try simp only [Result.andThen_ok]) <;>
                  (try rw [bound kl l _ _ (by omega)]) <;> simp [*]
          obtain ⟨M, hB1, hB2, hB3, hB4⟩ := hB
          refine ⟨.slice (if M = l then ad else ad.map (·.add (l * i.size))) (hh - l) (M - l), ?_, ?_⟩
          · unfold Instr.slice
            rw [Sem.run_bind, run_under ht]
            simp only [Result.andThen_ok]
            rw [Sem.run_bind, hB1]
            simp only [Result.andThen_ok, Sem.run_bind, run_size hi']
            rfl
          · have hflat : ∀ (j : Nat) y, (flat ((xs.take hh).drop l))[j]? = some y → (flat xs)[l * i.size + j]? = some y := by
              intro j y hy
              have e1 : xs = xs.take l ++ (xs.take hh).drop l ++ xs.drop hh := by
                have : xs.take l = (xs.take hh).take l := by rw [List.take_take]; congr 1; omega
                rw [this, List.take_append_drop, List.take_append_drop]
              have e2 : flat xs = flat (xs.take l) ++ flat ((xs.take hh).drop l) ++ flat (xs.drop hh) := by
                conv => lhs; rw [e1]
                simp [flat, List.flatMap_append]
              have e3 : (flat (xs.take l)).length = l * i.size := by
                rcases hL with ⟨_, hl2⟩ | ⟨kl, hl1⟩
                · subst hl2; simp [flat]
                · have hsz : ∀ x ∈ xs, x.cells.length = i.size := by
                    rcases hszB with h | h
                    · rw [hlo' h] at hl1; cases hl1
                    · exact h
                  rw [flat_len (sz := i.size) (fun x hx => hsz x (List.mem_of_mem_take hx))]
                  rw [List.length_take, Nat.min_eq_left (by omega)]
              rw [e2, List.append_assoc, List.getElem?_append_right (by omega), e3, show l * i.size + j - l * i.size = j by omega]
              rw [List.getElem?_append_left (List.getElem?_eq_some_iff.1 hy).1]
              exact hy
            have hmem : ∀ x ∈ (xs.take hh).drop l, x ∈ xs := fun x hx => List.mem_of_mem_take (List.mem_of_mem_drop hx)
            have hne : ∀ (j : Nat) y, (flat ((xs.take hh).drop l))[j]? = some y → M ≠ l := by
              intro j y hy he
              have : (xs.take hh).drop l = [] := by
                apply List.drop_eq_nil_of_le
                simp; omega
              rw [this] at hy
              simp [flat] at hy
            refine .sl sz (fun j => vals (l * i.size + j)) (by simp; omega) (by omega) (fun he => by have := hB4 he; omega) (by omega) (by omega)
              (fun he => ?_) ?_ (fun x hx => hp x (hmem x hx)) (fun x hx => hsz0 x (hmem x hx)) (fun ad' j y hadd hy => ?_) (fun j y hy => h1 _ y (hflat j y hy)) (fun j y hy => hvv _ y (hflat j y hy))
            · have : ad = none := by
                split at he
                · exact he
                · cases ad with
                  | none => rfl
                  | some _ => simp at he
              have := ha this; omega
            · intro b hb0 hpos
              have hM : M ≠ l := by omega
              rw [if_neg hM] at hb0
              cases ad with
              | none => simp at hb0
              | some d =>
                simp only [Option.map_some, Option.some.injEq] at hb0
                have := hsp d rfl (by omega)
                rw [← hb0]
                unfold Addr.add; split <;> simp_all
            · have hM := hne j y hy
              rw [if_neg hM] at hadd
              cases ad with
              | none => simp at hadd
              | some b =>
                simp only [Option.map_some, Option.some.injEq] at hadd
                obtain ⟨q1, q2, q3⟩ := hcell b _ y rfl (hflat j y hy)
                have hb' : ad' = ⟨b.block, b.off + l * i.size, none⟩ := by
                  rw [← hadd]
                  obtain ⟨bb, bo, bs⟩ := b
                  simp only at q1; subst q1
                  unfold Addr.add; split <;> simp_all
                subst hb'
                refine ⟨rfl, ?_, ?_⟩
                · have := q2; rwa [← Nat.add_assoc] at this
                · have := q3; rwa [← Nat.add_assoc] at this
        · cases h


theorem pointer_add {b o n : Nat} : Addr.add ⟨b, o, none⟩ n = ⟨b, o + n, none⟩ := by unfold Addr.add; split <;> simp_all


theorem run_bound {w : World} (k : IntKind) (q y : Nat) (code : BoundsCode) (hq : q ≤ y) : (Instr.sliceBound (.int k q) y code).run P w = .ok q w := by
  have := run_sliceBound (P := P) (w := w) k (q : Int) y code (by omega) (by omega)
  simpa using this

theorem acc_av (hW : WR c) {g n e sz : Nat} {xs : List AV} {v : Value} (hst : c.st[g]? = some (.acc e sz xs)) (hn : n = xs.length) (hv : VR c (.acc g n) v) : VR c (.av g n sz 0 n) v := by
  cases hv with
  | @acc _ _ cp a hg ha hm hc hh =>
    obtain ⟨k1, k2, k3, v0, vals, k4, k5, k6, k7, k8⟩ := hW.obj g _ hst
    have h2 := (hh e sz xs hst).2 hn.symm
    rw [k4] at h2; injection h2 with h2; subst h2
    have hsp : (a = none → cp = 0) ∧ (∀ ad, a = some ad → 0 < cp → ad.spot = none) := by
      rcases k5 with ⟨a', hv, rfl, rfl⟩ | ⟨hl, bk, cap, cur, hv, _⟩
      · injection hv with h1 h3 h4; subst h4; exact ⟨fun _ => rfl, fun _ _ h => by omega⟩
      · injection hv with h1 h3 h4; subst h1; exact ⟨(fun h => by cases h), (fun ad h _ => by injection h with h; rw [← h])⟩
    refine .av hg hm ⟨a, cp, rfl, hc.1, hc.2, hsp.1, hsp.2⟩ (fun e' xs' hx => ?_)
    rw [hst] at hx
    injection hx with hx; injection hx with hx1 hx2 hx3; subst hx3
    refine ⟨by omega, by omega, fun _ => ⟨a, cp, k4, a, by simp, fun hpos => ?_⟩⟩
    cases a with
    | none => have := hsp.1 rfl; omega
    | some ad => exact ⟨ad, rfl, by simp⟩

theorem slcV_ok (hW : WR c) {g N lo0 n0 : Nat} {v : Value} {lo hi : Option AV} {lov hiv : Option Value} {t e : TypeId} {i : TypeInfo}
    (ht : P.underlying t = some (.slice e)) (hi' : P.info? e = some i) (hv : VR c (.av g N i.size lo0 n0) v)
    (hlo : ∀ y, lo = some y → ∃ u, lov = some u ∧ VR c y u) (hlo' : lo = none → lov = none)
    (hhi : ∀ y, hi = some y → ∃ u, hiv = some u ∧ VR c y u) (hhi' : hi = none → hiv = none)
    (h : slcV c.st i.size g N lo0 n0 lo hi = some x) : ∃ r, (Instr.sliceAt t v lov hiv none).run P c.w = .ok r c.w ∧ VR c x r := by
  unfold slcV at h
  split at h
  case h_2 => cases h
  rename_i e0 sz0 xs hst
  split at h
  case isFalse => cases h
  rename_i hcond
  obtain ⟨rfl, rfl, hle0⟩ := hcond
  split at h
  · cases h
  rename_i hh hhEq
  split at h
  · cases h
  rename_i l hlEq
  split at h
  case isFalse => cases h
  rename_i hle
  obtain ⟨hle1, hle2⟩ := hle
  injection h with h; subst h
  cases hv with
  | av hg hm hs hav =>
    obtain ⟨k1, k2, k3, v0, vals, k4, k5, k6, k7, k8⟩ := hW.obj g _ hst
    obtain ⟨l1, l2, l3⟩ := hav e0 xs hst
    obtain ⟨b, cp, l4, a, rfl, l6⟩ := l3 rfl
    rw [k4] at l4; injection l4 with l4; subst l4
    have hrow : xs.length ≤ cp ∧ cp ≤ maxLen ∧ ∀ ad, b = some ad → 0 < cp → ad.spot = none := by
      rcases k5 with ⟨a', hv, rfl, rfl⟩ | ⟨hl, bk, cap, cur, hv, h0, _, h1, h2, _⟩
      · injection hv with h1 h3 h4; subst h4; exact ⟨by simp, by unfold maxLen; omega, fun _ _ h => by omega⟩
      · injection hv with h3 h4 h5; subst h5; subst h3; exact ⟨h1, h2, fun ad h _ => by injection h with h; rw [← h]⟩
    have hL : (lov = none ∧ l = 0) ∨ ∃ k, lov = some (.int k l) := by
      cases lo with
      | none => exact .inl ⟨hlo' rfl, by simpa using hlEq.symm⟩
      | some y =>
        obtain ⟨u, hu, hyu⟩ := hlo y rfl
        obtain ⟨k, rfl⟩ := hyu.natA_ok hlEq
        exact .inr ⟨k, hu⟩
    have hH : (hiv = none ∧ hh = n0) ∨ ∃ k, hiv = some (.int k hh) := by
      cases hi with
      | none => exact .inl ⟨hhi' rfl, by simpa using hhEq.symm⟩
      | some y =>
        obtain ⟨u, hu, hyu⟩ := hhi y rfl
        obtain ⟨k, rfl⟩ := hyu.natA_ok hhEq
        exact .inr ⟨k, hu⟩
    have hB : (Instr.sliceBounds true n0 (cp - lo0) lov hiv none).run P c.w = .ok (l, hh, cp - lo0) c.w := by
      rcases hH with ⟨hh1, hh2⟩ | ⟨kh, hh1⟩ <;> rcases hL with ⟨hl1, hl2⟩ | ⟨kl, hl1⟩ <;> rw [hh1, hl1] <;>
        simp only [Instr.sliceBounds, Sem.run_bind, Sem.run_pure, Result.andThen_ok, if_true] <;> (try rw [run_bound kh hh (cp - lo0) _ (by omega)]) <;> (try simp only [Result.andThen_ok]) <;>
        (try rw [run_bound kl l _ _ (by omega)]) <;> simp [*]
    refine ⟨.slice (if cp - lo0 = l then a else a.map (·.add (l * i.size))) (hh - l) (cp - lo0 - l), ?_, ?_⟩
    · unfold Instr.sliceAt
      rw [Sem.run_bind, run_under ht]
      simp only [Result.andThen_ok]
      unfold Instr.slice
      rw [Sem.run_bind, run_under ht]
      simp only [Result.andThen_ok]
      rw [Sem.run_bind, hB]
      simp only [Result.andThen_ok, Sem.run_bind, run_size hi']
      rfl
    · have key : 0 < cp - lo0 - l → ∃ ad, b = some ad ∧ (if cp - lo0 = l then a else a.map (·.add (l * i.size))) = some ⟨ad.block, ad.off + (lo0 + l) * i.size, ad.spot⟩ ∧ ad.spot = none := fun hpos => by
        obtain ⟨ad, hb, ha⟩ := l6 (by omega)
        have hsp := hrow.2.2 ad hb (by omega)
        refine ⟨ad, hb, ?_, hsp⟩
        rw [if_neg (by omega), ha]
        obtain ⟨bb, bo, bs⟩ := ad
        simp only at hsp; subst hsp
        simp only [Option.map_some, Nat.add_mul]
        congr 1
        unfold Addr.add; split <;> simp_all [Nat.add_assoc]
      refine .av hg (by omega) ⟨_, _, rfl, by omega, by omega, fun hn => ?_, fun ad had hpos => ?_⟩ (fun e' xs' hx => ?_)
      · rcases Nat.eq_zero_or_pos (cp - lo0 - l) with h0 | h0
        · exact h0
        · obtain ⟨ad, _, ha, _⟩ := key h0
          rw [hn] at ha; cases ha
      · obtain ⟨ad', _, ha, hsp⟩ := key hpos
        rw [ha] at had; injection had with had; rw [← had]; exact hsp
      · rw [hst] at hx
        injection hx with hx; injection hx with hx1 hx2 hx3; subst hx3
        refine ⟨by omega, Nat.le_refl _, fun _ => ⟨b, cp, k4, _, by rw [Nat.sub_sub], fun hpos => ?_⟩⟩
        obtain ⟨ad, hb, ha, _⟩ := key (by omega)
        exact ⟨ad, hb, ha⟩

theorem slc3_ok {n : Nat} {s : AV} {v : Value} {lo hi mx : Option AV} {lov hiv mxv : Option Value} {t e : TypeId} {i : TypeInfo}
    (ht : P.underlying t = some (.slice e)) (hi' : P.info? e = some i) (hv : VR c s v) (hn : slen s = some n)
    (hlo : ∀ y, lo = some y → ∃ u, lov = some u ∧ VR c y u) (hlo' : lo = none → lov = none)
    (hhi : ∀ y, hi = some y → ∃ u, hiv = some u ∧ VR c y u)
    (hmx : ∀ y, mx = some y → ∃ u, mxv = some u ∧ VR c y u)
    (h : slc3 n lo hi mx = true) : ∃ r, (Instr.sliceAt t v lov hiv mxv).run P c.w = .ok r c.w := by
  unfold slc3 at h
  split at h
  case h_2 => cases h
  rename_i ha ma
  split at h
  case h_2 => cases h
  rename_i hh mm l hhEq hmEq hlEq
  simp only [Bool.and_eq_true, decide_eq_true_eq] at h
  obtain ⟨ad, cp, rfl, _, _, hc, _⟩ := hv.slen_ok hn
  obtain ⟨u1, rfl, hu1⟩ := hhi _ rfl
  obtain ⟨u2, rfl, hu2⟩ := hmx _ rfl
  obtain ⟨k1, rfl⟩ := hu1.natA_ok hhEq
  obtain ⟨k2, rfl⟩ := hu2.natA_ok hmEq
  have hL : (lov = none ∧ l = 0) ∨ ∃ k, lov = some (.int k l) := by
    cases lo with
    | none => exact .inl ⟨hlo' rfl, by simpa using hlEq.symm⟩
    | some y =>
      obtain ⟨u, hu, hyu⟩ := hlo y rfl
      obtain ⟨k, rfl⟩ := hyu.natA_ok hlEq
      exact .inr ⟨k, hu⟩
  have hB : (Instr.sliceBounds true n cp lov (some (.int k1 hh)) (some (.int k2 mm))).run P c.w = .ok (l, hh, mm) c.w := by
    rcases hL with ⟨hl1, hl2⟩ | ⟨kl, hl1⟩ <;> rw [hl1] <;>
      simp only [Instr.sliceBounds, Sem.run_bind, Sem.run_pure, Result.andThen_ok, if_true] <;> rw [run_bound k2 mm cp _ (by omega)] <;> simp only [Result.andThen_ok] <;>
      rw [run_bound k1 hh mm _ (by omega)] <;> (try simp only [Result.andThen_ok]) <;>
      (try rw [run_bound kl l _ _ (by omega)]) <;> simp [*]
  refine ⟨.slice (if mm = l then ad else ad.map (·.add (l * i.size))) (hh - l) (mm - l), ?_⟩
  · unfold Instr.sliceAt
    rw [Sem.run_bind, run_under ht]
    simp only [Result.andThen_ok]
    unfold Instr.slice
    rw [Sem.run_bind, run_under ht]
    simp only [Result.andThen_ok]
    rw [Sem.run_bind, hB]
    simp only [Result.andThen_ok, Sem.run_bind, run_size hi']
    rfl

/-- A value comes of the operation, and nothing else has turned. -/
def Val (P : Program) (c : Cx) (a : Act) (o : Oper) (x : AV) : Prop := ∃ v, (execOp a.eval o).run P c.w = .ok (.value v) c.w ∧ VR c x v

theorem val_of {s : Sem Value} (he : execOp a.eval o = (do pure (.value (← s)) : Sem Next)) (h : ∃ v, s.run P c.w = .ok v c.w ∧ VR c x v) : Val P c a o x := by
  obtain ⟨v, hv, hx⟩ := h
  exact ⟨v, by rw [he, Sem.run_bind, hv]; rfl, hx⟩


theorem opt_map {f : Operand → AV} {g : Operand → Value} (hf : ∀ x, VR c (f x) (g x)) (y : Option Operand) :
    (∀ z, y.map f = some z → ∃ u, y.map g = some u ∧ VR c z u) ∧ (y.map f = none → y.map g = none) := by
  cases y with
  | none => simp
  | some y => simp; exact hf y

theorem val_ret {v : Value} (he : execOp a.eval o = pure (.value v)) (h : VR c x v) : Val P c a o x := ⟨v, by rw [he]; rfl, h⟩

theorem val_load (hW : WR c) {t : TypeId} {y : Operand} {d : TypeDesc} {i : TypeInfo} (ho : o.op = .load t y) (hd : P.underlying t = some d) (hi : P.info? t = some i) {p : AV} (hp : VR c p (a.eval y))
    (h : loadA c.st (tyAgg d) i.size p = some x) : Val P c a o x := by
  refine val_of (s := Instr.loadAt t (a.eval y)) (by simp [execOp, ho]) ?_
  obtain ⟨ad, hv, h1, h2⟩ := load_ok (P := P) hW hp h
  rw [hv]
  simp only [Instr.loadAt, Instr.sureAddr, loadVar, Sem.run_bind, Sem.run_pure, Result.andThen_ok, run_agg hd]
  cases hd' : tyAgg d with
  | true =>
    obtain ⟨arr, k1, k2⟩ := h1 hd'
    exact ⟨.agg arr, by simp [Sem.run_bind, run_size hi, k1], k2⟩
  | false =>
    obtain ⟨u, k1, k2⟩ := h2 hd'
    exact ⟨u, by simp [k1], k2⟩

theorem decParts_ok {pl : Nat → Option (Nat × Nat)} : ∀ {l : List (Nat × Operand)} {ps : List (Nat × Nat × Operand)}, decParts pl l = some ps →
    l.length = ps.length ∧ ∀ (j : Nat) i y, l[j]? = some (i, y) → ∃ off sz, ps[j]? = some (off, sz, y) ∧ pl i = some (off, sz)
  | [], ps, h => by simp [decParts] at h; subst h; simp
  | (i, y) :: l, ps, h => by
    simp only [decParts] at h
    split at h
    · rename_i o s ps' h1 h2
      injection h with h; subst h
      obtain ⟨k1, k2⟩ := decParts_ok h2
      refine ⟨by simp [k1], fun j i' y' hj => ?_⟩
      cases j with
      | zero => simp at hj; obtain ⟨rfl, rfl⟩ := hj; exact ⟨o, s, rfl, h1⟩
      | succ j => simp at hj; obtain ⟨off, sz, g1, g2⟩ := k2 j i' y' hj; exact ⟨off, sz, by simpa using g1, g2⟩
    · cases h

theorem run_placesA (w : World) : ∀ (fs : List Field) (places : List (Nat × Nat)), fs.mapM (fun f => (P.info? f.type).map fun i => (f.offset, i.size)) = some places →
    ((fs.mapM fun f => (do pure (f.offset, ← sizeOf f.type) : Sem (Nat × Nat))) : Sem (List (Nat × Nat))).run P w = .ok places w ∧ ∀ (i : Nat), places[i]? = (fs[i]?).bind fun f => (P.info? f.type).map fun s => (f.offset, s.size)
  | [], places, h => by simp at h; subst h; exact ⟨rfl, fun i => by simp⟩
  | f :: fs, places, h => by
    rw [List.mapM_cons] at h
    cases hf : P.info? f.type with
    | none => simp [hf] at h
    | some s =>
      cases hr : fs.mapM (fun f => (P.info? f.type).map fun i => (f.offset, i.size)) with
      | none => simp [hf, hr] at h
      | some ps =>
        simp [hf, hr] at h
        subst h
        obtain ⟨k1, k2⟩ := run_placesA w fs ps hr
        refine ⟨?_, fun i => ?_⟩
        · rw [List.mapM_cons]
          simp only [Sem.run_bind, run_size hf, Result.andThen_ok, Sem.run_pure, k1]
        · cases i with
          | zero => simp [hf]
          | succ i => simpa using k2 i

theorem val_build {t : TypeId} {parts : Array (Nat × Operand)} {zs : List AV} {ps : List (Nat × Nat × Operand)} (ho : o.op = .build t parts) (hE : ER c en N a.tmps)
    (hd : dec P o = .build zs ps) {cs : List AV} (h : fillA zs (ps.map fun (o, s, x) => (o, s, opA en x)) = some cs) : Val P c a o (.agg cs) := by
  have ev := fun y => hE.opA (a := a) y
  refine val_of (s := Instr.build t (parts.map fun (i, x) => (i, a.eval x))) (by simp [execOp, ho]) ?_
  have key : ∀ (z : Value) (pl : Nat → Option (Nat × Nat)), (constA z).cells? = some zs → decParts pl parts.toList = some ps →
      ∃ cv, Instr.fill pl z.cells (parts.map fun (i, x) => (i, a.eval x)).toList = some cv ∧ VR c (.agg cs) (.agg cv) := by
    intro z pl hz hps
    obtain ⟨z1, z2, z3⟩ := (VR.constA (c := c) z).cells hz
    obtain ⟨d1, d2⟩ := decParts_ok hps
    obtain ⟨cv, k1, k2, k3, k4⟩ := fill_ok (c := c) (place := pl) (l := (parts.map fun (i, x) => (i, a.eval x)).toList) (zv := z.cells) (by simpa using d1) (fun j i v off sz y h1 h2 => by
      simp only [Array.toList_map, List.getElem?_map] at h1 h2
      cases hp : parts.toList[j]? with
      | none => rw [hp] at h1; cases h1
      | some q =>
        rw [hp] at h1
        simp at h1
        obtain ⟨rfl, rfl⟩ := h1
        obtain ⟨off', sz', g1, g2⟩ := d2 j q.1 q.2 hp
        rw [g1] at h2
        simp at h2
        obtain ⟨rfl, rfl, rfl⟩ := h2
        exact ⟨g2, ev _⟩) z1 z2 z3 h
    exact ⟨cv, k1, .agg k2.symm k3 k4⟩
  simp only [dec, ho] at hd
  split at hd
  · rename_i z fs hz hu
    split at hd
    · rename_i zs' ps' places h1 h2 h3
      injection hd with e1 e2
      subst e1; subst e2
      obtain ⟨cv, k1, k2⟩ := key z _ h1 h2
      obtain ⟨r1, r2⟩ := run_placesA (P := P) c.w fs.toList places h3
      refine ⟨.agg cv, ?_, k2⟩
      cases hi : P.info? t with
      | none => simp [hi] at hz
      | some i =>
        simp [hi] at hz
        have hpl : (places.toArray[·]?) = placeF P fs := by
          funext i
          simp only [List.getElem?_toArray, r2 i, placeF, Array.getElem?_toList]
        unfold Instr.build
        simp only [Sem.run_bind, zeroValue, run_tinfo hi, Result.andThen_ok, hz, Sem.run_pure, run_under hu]
        have : ((fs.mapM fun f => (do pure (f.offset, ← sizeOf f.type) : Sem (Nat × Nat))) : Sem (Array (Nat × Nat))).run P c.w = .ok places.toArray c.w := by
          rw [Array.mapM_eq_mapM_toList]
          simp only [Sem.run_map, r1, Result.andThen_ok]
        rw [this]
        simp only [Result.andThen_ok, hpl, k1]
        rfl
    · cases hd
  · rename_i z n e hz hu
    split at hd
    · rename_i zs' s h1 h3
      split at hd
      · rename_i ps' h2
        injection hd with e1 e2
        subst e1; subst e2
        obtain ⟨cv, k1, k2⟩ := key z _ h1 h2
        refine ⟨.agg cv, ?_, k2⟩
        cases hi : P.info? t with
        | none => simp [hi] at hz
        | some i =>
          simp [hi] at hz
          unfold Instr.build
          simp only [Sem.run_bind, zeroValue, run_tinfo hi, Result.andThen_ok, hz, Sem.run_pure, run_under hu, run_size h3, k1]
      · cases hd
    · cases hd
  · cases hd

theorem max2A_ok {mx : Bool} {X Y Z : AV} {u v : Value} {w : World} (hX : VR c X u) (hY : VR c Y v) (h : max2A mx X Y = some Z) :
    ∃ r, ((if mx then Builtin.max2 u v else Builtin.min2 u v) : Sem Value).run P w = .ok r w ∧ VR c Z r := by
  unfold max2A at h
  split at h
  case h_2 => cases h
  rename_i k p k' q
  split at h
  case isFalse => cases h
  rename_i hk
  subst hk
  injection h with h; subst h
  cases hX with
  | sc h1 => cases hY with
    | sc h2 =>
      cases mx with
      | true => exact ⟨.int k (if q > p then q else p), by simp [Builtin.max2], .sc (by simp only [if_true]; split <;> assumption)⟩
      | false => exact ⟨.int k (if q < p then q else p), by simp [Builtin.min2], .sc (by simp only [Bool.false_eq_true, if_false]; split <;> assumption)⟩

theorem mm_ok {mx : Bool} (ev : ∀ y, VR c (opA en y) (a.eval y)) {w : World} : ∀ {ps : List Operand} {X : AV} {u : Value}, VR c X u → mmA mx X (ps.map (opA en)) = some x →
    ∃ r, ((ps.map a.eval).foldlM (fun u v => if mx then Builtin.max2 u v else Builtin.min2 u v) u : Sem Value).run P w = .ok r w ∧ VR c x r
  | [], X, u, hX, h => by simp [mmA] at h; subst h; exact ⟨u, rfl, hX⟩
  | p :: ps, X, u, hX, h => by
    simp only [List.map_cons, mmA] at h
    split at h
    case h_2 => cases h
    rename_i z hz
    obtain ⟨r, h1, h2⟩ := max2A_ok (P := P) (w := w) hX (ev p) hz
    obtain ⟨r', h3, h4⟩ := mm_ok ev h2 h
    exact ⟨r', by rw [List.map_cons, List.foldlM_cons, Sem.run_bind, h1]; exact h3, h4⟩

theorem scL_val : ∀ {cs : List AV} {vs : List Value} {us : List Value}, scL cs = some vs → cs.length = us.length → (∀ (i : Nat) x v, cs[i]? = some x → us[i]? = some v → VR c x v) → us = vs
  | [], vs, us, h, hl, _ => by
    simp [scL] at h; subst h
    exact List.eq_nil_of_length_eq_zero hl.symm
  | x :: cs, vs, [], h, hl, _ => by simp at hl
  | x :: cs, vs, u :: us, h, hl, hv => by
    cases x with
    | sc v =>
      simp only [scL, Option.map_eq_some_iff] at h
      obtain ⟨vs', h1, rfl⟩ := h
      have h0 := hv 0 _ u rfl rfl
      cases h0
      have hr : us = vs' := scL_val h1 (by simpa using hl) (fun i x v hx hu => hv (i + 1) x v (by simpa using hx) (by simpa using hu))
      rw [hr]
    | _ => simp [scL] at h

theorem key_val {X : AV} {u key : Value} (h : VR c X u) (hk : keyA X = some key) : u = key := by
  unfold keyA at hk
  split at hk
  · injection hk with hk; subst hk; cases h; rfl
  · simp only [Option.map_eq_some_iff] at hk
    obtain ⟨vs, h1, rfl⟩ := hk
    cases h with
    | @agg _ us hl h1' hh =>
      have := scL_val (us := us.toList) h1 (by simpa using hl) (fun i x v hx hv => hh i x v hx (by simpa using hv))
      rw [← this]
  · cases hk

theorem keyG_val {tag : KS} {X : AV} {u key : Value} (h : VR c X u) (hk : keyG tag X = some key) : u = key ∧ ksOk tag key = true := by
  unfold keyG at hk
  split at hk
  · rename_i v hv
    split at hk
    · rename_i ht; injection hk with hk; subst hk; exact ⟨key_val h hv, ht⟩
    · cases hk
  · cases hk

/-- Has a value the cells of a type of keys? -/
def Shaped (P : Program) (t : TypeId) (ls : List Nat) (v : Value) : Prop := match P.underlying t with
  | some (.struct _) => ∃ cs : Array Value, v = .agg cs ∧ cs.toList.map tagV = ls
  | _ => [tagV v] = ls

theorem keyEqL_append : ∀ {a1 b1 a2 b2 : List Value}, a1.length = b1.length → keyEqL (a1 ++ a2) (b1 ++ b2) = (match keyEqL a1 b1 with | some true => keyEqL a2 b2 | x => x)
  | [], [], a2, b2, _ => rfl
  | x :: a1, y :: b1, a2, b2, h => by
    simp only [List.cons_append, keyEqL]
    cases hk : keyEq1 x y with
    | none => rfl
    | some b =>
      cases b with
      | true => exact keyEqL_append (by simpa using h)
      | false => rfl
  | [], _ :: _, _, _, h => by simp at h
  | _ :: _, [], _, _, h => by simp at h

theorem scalar_tag {k : Nat} {v : Value} (h : tagV v = k) (h3 : k = 0 ∨ k = 1 ∨ k = 2) : (k = 0 ∧ ∃ q n, v = .int q n) ∨ (k = 1 ∧ ∃ s, v = .string s) ∨ (k = 2 ∧ ∃ b, v = .bool b) := by
  subst h
  cases v <;> simp [tagV] at h3 ⊢

/-- A field of a key. -/
theorem part_ok {f : TypeId} {i : TypeInfo} {ls : List Nat} {n off : Nat} (hk : flatK P n f = some ls) (hi : P.info? f = some i) (hs : i.size = ls.length) {xs : Array Value} {w : World} (hx : ((xs.toList.drop off).take ls.length).map tagV = ls) :
    ∃ u, (part f xs off).run P w = .ok u w ∧ Shaped P f ls u ∧ u.cells.toList = (xs.toList.drop off).take ls.length := by
  cases n with
  | zero => simp [flatK] at hk
  | succ n =>
    simp only [flatK] at hk
    have one : ∀ {k : Nat} {d : TypeDesc}, P.underlying f = some d → tyAgg d = false → (∀ fs, d ≠ .struct fs) → (k = 0 ∨ k = 1 ∨ k = 2) → ls = [k] → ∃ u, (part f xs off).run P w = .ok u w ∧ Shaped P f ls u ∧ u.cells.toList = (xs.toList.drop off).take ls.length := fun {k d} hu ha hns h3 hl => by
      subst hl
      have hlt : off < xs.size := by
        have := congrArg List.length hx
        simp at this; omega
      have hd : (xs.toList.drop off).take [k].length = [xs[off]] := by
        rw [List.drop_eq_getElem_cons (by simpa using hlt)]; simp
      rw [hd] at hx
      simp at hx
      have hcells : (xs[off]).cells.toList = [xs[off]] := by
        rcases scalar_tag hx h3 with ⟨_, q, m, hv⟩ | ⟨_, s, hv⟩ | ⟨_, b, hv⟩ <;> rw [hv] <;> rfl
      refine ⟨xs[off], ?_, ?_, by rw [hcells, hd]⟩
      · simp [part, Sem.run_bind, run_agg hu, ha, Array.getElem?_eq_getElem hlt]
      · unfold Shaped
        rw [hu]
        cases d <;> first | exact absurd rfl (hns _) | simp [hx]
    split at hk
    · rename_i k hu; injection hk with hk; exact one hu rfl (by simp) (.inl rfl) hk.symm
    · rename_i hu; injection hk with hk; exact one hu rfl (by simp) (.inr (.inl rfl)) hk.symm
    · rename_i hu; injection hk with hk; exact one hu rfl (by simp) (.inr (.inr rfl)) hk.symm
    · rename_i fs hu
      refine ⟨.agg (xs.extract off (off + i.size)), ?_, ?_, ?_⟩
      · simp [part, Sem.run_bind, run_agg hu, tyAgg, run_size hi]
      · unfold Shaped
        rw [hu]
        refine ⟨_, rfl, ?_⟩
        rw [← hx, Array.toList_extract]
        simp [List.extract, hs]
      · rw [show (Value.agg (xs.extract off (off + i.size))).cells = xs.extract off (off + i.size) from rfl, Array.toList_extract]
        simp [List.extract, hs]
    · cases hk

theorem eqK_ok : ∀ (n : Nat) {t : TypeId} {ls : List Nat} {d : Nat} {u v : Value} {b : Bool} {w : World}, flatK P n t = some ls → Shaped P t ls u → Shaped P t ls v → keyEqL u.cells.toList v.cells.toList = some b → (Op.equalIn (d + n) t u v).run P w = .ok b w
  | 0, t, ls, d, u, v, b, w, hk, _, _, _ => by simp [flatK] at hk
  | n + 1, t, ls, d, u, v, b, w, hk, hu, hv, hb => by
    have hk0 := hk
    simp only [flatK] at hk
    unfold Shaped at hu hv
    rw [show d + (n + 1) = (d + n) + 1 by omega]
    split at hk
    · rename_i k hu'
      rw [hu'] at hu hv
      injection hk with hk; subst hk
      simp at hu hv
      cases u <;> simp [tagV] at hu
      cases v <;> simp [tagV] at hv
      simp [keyEqL, Value.cells, keyEq1] at hb
      split at hb
      · rename_i k1 n1 k2 n2 h1
        split at h1
        · rename_i he; subst he; rw [run_equalIn_int w _ _ _ _ _ _ hu']; simp at h1 hb; simp [h1, ← hb]
        · cases h1
      · rename_i h1
        split at hb
        · rename_i he; subst he; rw [run_equalIn_int w _ _ _ _ _ _ hu']; simp at hb; simp [hb]
        · cases hb
    · rename_i hu'
      rw [hu'] at hu hv
      injection hk with hk; subst hk
      simp at hu hv
      cases u <;> simp [tagV] at hu
      cases v <;> simp [tagV] at hv
      rename_i s1 s2
      rw [run_equalIn_string w _ _ _ _ hu', ← beq_toListBytes]
      simp [keyEqL, Value.cells, keyEq1] at hb
      cases hq : (s1 == s2) <;> simp [hq] at hb <;> simp [hb]
    · rename_i hu'
      rw [hu'] at hu hv
      injection hk with hk; subst hk
      simp at hu hv
      cases u <;> simp [tagV] at hu
      cases v <;> simp [tagV] at hv
      rename_i s1 s2
      rw [run_equalIn_bool' w _ _ _ _ hu']
      simp [keyEqL, Value.cells, keyEq1] at hb
      cases hq : (s1 == s2) <;> simp [hq] at hb <;> simp [hb]
    · rename_i fs hu'
      rw [hu'] at hu hv
      obtain ⟨xs, rfl, hxs⟩ := hu
      obtain ⟨ys, rfl, hys⟩ := hv
      split at hk
      · cases hk
      rename_i hst
      have hfo : P.fieldsOf t = fs := by simp [Program.fieldsOf, hu']
      rw [run_equalIn_struct w (d + n) t xs ys (by rw [hfo]; exact hu') (by simpa using hst), hfo]
      simp only [Value.cells] at hb
      have gen : ∀ (fl : List Field) (off : Nat) (ms : List Nat), flatF P (flatK P n) off fl = some ms → (xs.toList.drop off).map tagV = ms → (ys.toList.drop off).map tagV = ms →
          keyEqL (xs.toList.drop off) (ys.toList.drop off) = some b → (Op.eqFields (d + n) xs ys fl).run P w = .ok b w := by
        intro fl
        induction fl with
        | nil =>
          intro off ms hf h1 h2 h3
          simp [flatF] at hf; subst hf
          simp at h1 h2
          have e1 : xs.toList.drop off = [] := List.drop_eq_nil_of_le (by simpa using h1)
          have e2 : ys.toList.drop off = [] := List.drop_eq_nil_of_le (by simpa using h2)
          rw [e1, e2] at h3
          simp [keyEqL] at h3; subst h3
          rfl
        | cons f fl ih =>
          intro off ms hf h1 h2 h3
          simp only [flatF] at hf
          split at hf
          · cases hf
          rename_i hnm
          split at hf
          case h_2 => cases hf
          rename_i ks i hks hi
          split at hf
          case isFalse => cases hf
          rename_i hsz
          split at hf
          case h_2 => cases hf
          rename_i ms' hms
          injection hf with hf; subst hf
          have hno : f.name ≠ "_" := fun e => hnm (.inl e)
          have hof : f.offset = off := by
            by_cases h : f.offset = off
            · exact h
            · exact absurd (.inr h) hnm
          have t1 : ((xs.toList.drop off).take ks.length).map tagV = ks := by rw [List.map_take, h1]; simp
          have t2 : ((ys.toList.drop off).take ks.length).map tagV = ks := by rw [List.map_take, h2]; simp
          obtain ⟨u1, p1, s1, c1⟩ := part_ok (w := w) hks hi hsz t1
          obtain ⟨u2, p2, s2, c2⟩ := part_ok (w := w) hks hi hsz t2
          have sp : ∀ l : List Value, l = l.take ks.length ++ l.drop ks.length := fun l => (List.take_append_drop _ _).symm
          rw [sp (xs.toList.drop off), sp (ys.toList.drop off), keyEqL_append (by
            have e1 := congrArg List.length t1
            have e2 := congrArg List.length t2
            simp only [List.length_map] at e1 e2; omega), ← c1, ← c2, List.drop_drop, List.drop_drop] at h3
          simp only [Op.eqFields, hno, ne_eq, not_false_eq_true, if_true, Sem.run_bind, hof, p1, p2, Result.andThen_ok]
          cases hq : keyEqL u1.cells.toList u2.cells.toList with
          | none => rw [hq] at h3; cases h3
          | some q =>
            rw [eqK_ok n hks s1 s2 hq]
            rw [hq] at h3
            cases q with
            | false => simp at h3; subst h3; simp
            | true =>
              simp only [Result.andThen_ok, Bool.not_true, Bool.false_eq_true, if_false]
              exact ih (off + ks.length) ms' hms (by rw [← List.drop_drop, List.map_drop, h1]; simp) (by rw [← List.drop_drop, List.map_drop, h2]; simp) h3
      exact gen fs.toList 0 ls hk (by simpa using hxs) (by simpa using hys) (by simpa using hb)
    · cases hk

theorem ckK_ok (em : Bool) : ∀ (n : Nat) {t : TypeId} {ls : List Nat} {d : Nat} {v : Value} {w : World}, flatK P n t = some ls → Shaped P t ls v → (Instr.checkKey em (d + n) t v).run P w = .ok () w
  | 0, t, ls, d, v, w, hk, _ => by simp [flatK] at hk
  | n + 1, t, ls, d, v, w, hk, hv => by
    simp only [flatK] at hk
    unfold Shaped at hv
    rw [show d + (n + 1) = (d + n) + 1 by omega]
    split at hk
    · rename_i k hu; unfold Instr.checkKey; simp only [Sem.run_bind, run_under hu, Result.andThen_ok]; cases v <;> rfl
    · rename_i hu; unfold Instr.checkKey; simp only [Sem.run_bind, run_under hu, Result.andThen_ok]; cases v <;> rfl
    · rename_i hu; unfold Instr.checkKey; simp only [Sem.run_bind, run_under hu, Result.andThen_ok]; cases v <;> rfl
    · rename_i fs hu
      rw [hu] at hv
      obtain ⟨xs, rfl, hxs⟩ := hv
      split at hk
      · cases hk
      unfold Instr.checkKey
      simp only [Sem.run_bind, run_under hu, Result.andThen_ok]
      rw [← Array.forIn_toList]
      have gen : ∀ (fl : List Field) (off : Nat) (ms : List Nat), flatF P (flatK P n) off fl = some ms → (xs.toList.drop off).map tagV = ms →
          (forIn fl PUnit.unit (fun f _ => if f.name ≠ "_" then (do let u ← part f.type xs f.offset; Instr.checkKey em (d + n) f.type u; pure (ForInStep.yield PUnit.unit)) else pure (ForInStep.yield PUnit.unit)) : Sem PUnit).run P w = .ok PUnit.unit w := by
        intro fl
        induction fl with
        | nil => intro off ms hf h1; rfl
        | cons f fl ih =>
          intro off ms hf h1
          simp only [flatF] at hf
          split at hf
          · cases hf
          rename_i hnm
          split at hf
          case h_2 => cases hf
          rename_i ks i hks hi
          split at hf
          case isFalse => cases hf
          rename_i hsz
          split at hf
          case h_2 => cases hf
          rename_i ms' hms
          injection hf with hf; subst hf
          have hno : f.name ≠ "_" := fun e => hnm (.inl e)
          have hof : f.offset = off := by
            by_cases h : f.offset = off
            · exact h
            · exact absurd (.inr h) hnm
          have t1 : ((xs.toList.drop off).take ks.length).map tagV = ks := by rw [List.map_take, h1]; simp
          obtain ⟨u1, p1, s1, c1⟩ := part_ok (w := w) hks hi hsz t1
          have hck := ckK_ok em n (d := d) (w := w) hks s1
          simp only [List.forIn_cons, hno, ne_eq, not_false_eq_true, if_true, Sem.run_bind, hof, p1, Result.andThen_ok, hck, Sem.run_pure]
          exact ih (off + ks.length) ms' hms (by rw [← List.drop_drop, List.map_drop, h1]; simp)
      have := gen fs.toList 0 ls hk (by simpa using hxs)
      simp at this ⊢
      rw [this]; rfl
    · cases hk

theorem keyT_spec {kt : TypeId} {ks : KS} (h : keyT P kt = some ks) : (∃ td k, P.underlying kt = some td ∧ ks = .one k ∧ flatK P 5 kt = some [k] ∧ (∀ fs, td ≠ .struct fs) ∧ ((k = 0 ∧ ∃ q, td = .int q) ∨ (k = 1 ∧ td = .string) ∨ (k = 2 ∧ td = .bool))) ∨
    ∃ fs ls, P.underlying kt = some (.struct fs) ∧ flatK P 5 kt = some ls ∧ ks = .agg ls := by
  unfold keyT at h
  split at h
  · rename_i k hk; injection h with h; exact .inl ⟨_, 0, hk, h.symm, by simp [flatK, hk], by simp, .inl ⟨rfl, k, rfl⟩⟩
  · rename_i hk; injection h with h; exact .inl ⟨_, 1, hk, h.symm, by simp [flatK, hk], by simp, .inr (.inl ⟨rfl, rfl⟩)⟩
  · rename_i hk; injection h with h; exact .inl ⟨_, 2, hk, h.symm, by simp [flatK, hk], by simp, .inr (.inr ⟨rfl, rfl⟩)⟩
  · rename_i fs hk
    simp only [Option.map_eq_some_iff] at h
    obtain ⟨ls, h1, h2⟩ := h
    exact .inr ⟨fs, ls, hk, h1, h2.symm⟩
  · cases h

theorem key_shaped {kt : TypeId} {ks : KS} {key : Value} (h : keyT P kt = some ks) (hk : ksOk ks key = true) : ∃ ls, flatK P 5 kt = some ls ∧ Shaped P kt ls key := by
  rcases keyT_spec h with ⟨td, k, hu, rfl, hf, hns, _⟩ | ⟨fs, ls, hu, hf, rfl⟩
  · refine ⟨[k], hf, ?_⟩
    unfold Shaped
    rw [hu]
    simp only [ksOk, Bool.and_eq_true, beq_iff_eq] at hk
    cases td <;> first | exact absurd rfl (hns _) | simp [hk.1]
  · refine ⟨ls, hf, ?_⟩
    unfold Shaped
    rw [hu]
    cases key <;> simp [ksOk] at hk
    exact ⟨_, rfl, by simpa using hk⟩

theorem check_ok {kt : TypeId} {tag : KS} (h : keyT P kt = some tag) {u : Value} (hu : ksOk tag u = true) (b : Bool) {w : World} : (Instr.checkKey b 10000 kt u).run P w = .ok () w := by
  obtain ⟨ls, h1, h2⟩ := key_shaped h hu
  exact ckK_ok b 5 (d := 9995) h1 h2

theorem sameNow_ok {kt : TypeId} {k : Nat} {td : TypeDesc} (h : (k = 0 ∧ ∃ q, td = .int q) ∨ (k = 1 ∧ td = .string) ∨ (k = 2 ∧ td = .bool)) {key v : Value} (ht : tagV key = k) {b : Bool} (hb : keyEq key v = some b) : Instr.sameNow td key v = some b := by
  rcases h with ⟨rfl, q, rfl⟩ | ⟨rfl, rfl⟩ | ⟨rfl, rfl⟩ <;> cases key <;> simp [tagV] at ht <;> cases v <;> simp [keyEq, keyEq1] at hb <;> simp [Instr.sameNow, hb]

theorem findNow_ok {k : Nat} {td : TypeDesc} (hk : (k = 0 ∧ ∃ q, td = .int q) ∨ (k = 1 ∧ td = .string) ∨ (k = 2 ∧ td = .bool)) {key : Value} (ht : tagV key = k) : ∀ {ents : List MapEntry} {i : Nat} {r : Option Nat}, findK key ents i = some r →
    Instr.findNow td key ents i = some (r.bind fun j => (ents[j - i]?).map fun e => (j, e.val)) ∧ ∀ j, r = some j → i ≤ j
  | [], i, r, h => by simp [findK] at h; subst h; simp [Instr.findNow]
  | e :: es, i, r, h => by
    simp only [findK] at h
    split at h
    · rename_i hb
      injection h with h; subst h
      simp [Instr.findNow, sameNow_ok (kt := 0) hk ht hb]
    · rename_i hb
      obtain ⟨h1, h2⟩ := findNow_ok hk ht h
      refine ⟨?_, fun j hj => by have := h2 j hj; omega⟩
      simp only [Instr.findNow, sameNow_ok (kt := 0) hk ht hb, h1]
      cases r with
      | none => rfl
      | some j =>
        have := h2 j rfl
        simp only [Option.bind_some]
        rw [show j - i = (j - (i + 1)) + 1 by omega, List.getElem?_cons_succ]
    · cases h

theorem findAsk_ok {kt : TypeId} {ls : List Nat} {fs : Array Field} (hu : P.underlying kt = some (.struct fs)) (hf : flatK P 5 kt = some ls) {xs : Array Value} (hx : xs.toList.map tagV = ls) {w : World} : ∀ {ents : List MapEntry} {i : Nat} {r : Option Nat}, findK (.agg xs) ents i = some r →
    (Instr.findAsking kt (.agg xs) ents i).run P w = .ok (r.bind fun j => (ents[j - i]?).map fun e => (j, e.val)) w ∧ ∀ j, r = some j → i ≤ j
  | [], i, r, h => by simp [findK] at h; subst h; simp [Instr.findAsking]
  | e :: es, i, r, h => by
    have hsx : Shaped P kt ls (.agg xs) := by unfold Shaped; rw [hu]; exact ⟨xs, rfl, hx⟩
    have eqv : ∀ b, keyEq (.agg xs) e.key = some b → (Op.equal kt (.agg xs) e.key).run P w = .ok b w := fun b hb => by
      cases hek : e.key <;> rw [hek] at hb <;> simp [keyEq, keyEq1] at hb
      obtain ⟨h1, h2⟩ := hb
      rename_i ys
      have hsy : Shaped P kt ls (.agg ys) := by unfold Shaped; rw [hu]; exact ⟨ys, rfl, by rw [← hx]; exact h1.symm⟩
      exact eqK_ok 5 (d := 9995) hf hsx hsy h2
    simp only [findK] at h
    split at h
    · rename_i hb
      injection h with h; subst h
      simp [Instr.findAsking, Sem.run_bind, eqv _ hb]
    · rename_i hb
      obtain ⟨h1, h2⟩ := findAsk_ok (w := w) hu hf hx h
      refine ⟨?_, fun j hj => by have := h2 j hj; omega⟩
      simp only [Instr.findAsking, Sem.run_bind, eqv _ hb, Result.andThen_ok, Bool.false_eq_true, if_false, h1]
      cases r with
      | none => rfl
      | some j =>
        have := h2 j rfl
        simp only [Option.bind_some]
        rw [show j - i = (j - (i + 1)) + 1 by omega, List.getElem?_cons_succ]
    · cases h

theorem find_ok {kt : TypeId} {tag : KS} (h : keyT P kt = some tag) {key : Value} (ht : ksOk tag key = true) {ents : List MapEntry} {r : Option Nat} {w : World} (hr : findK key ents 0 = some r) :
    (Instr.findKey kt key ents).run P w = .ok (r.bind fun j => (ents[j]?).map fun e => (j, e.val)) w := by
  unfold Instr.findKey
  rcases keyT_spec h with ⟨td, k, hu, rfl, hf, hns, hd⟩ | ⟨fs, ls, hu, hf, rfl⟩
  · simp only [ksOk, Bool.and_eq_true, beq_iff_eq] at ht
    have := (findNow_ok (i := 0) hd ht.1 hr).1
    simp only [Sem.run_bind, run_under hu, Result.andThen_ok, this, Sem.run_pure, Nat.sub_zero]
  · cases key <;> simp [ksOk] at ht
    rename_i xs
    have := (findAsk_ok (w := w) (i := 0) hu hf (by simpa using ht) hr).1
    cases ents with
    | nil => simp [findK] at hr; subst hr; simp [Sem.run_bind, run_under hu, Instr.findNow]
    | cons e es =>
      have hn : Instr.findNow (.struct fs) (.agg xs) (e :: es) 0 = none := by simp [Instr.findNow, Instr.sameNow]
      simp only [Sem.run_bind, run_under hu, Result.andThen_ok, hn]
      simpa using this

theorem rgm {w : World} {r : Nat} {es : Array MapEntry} {clock : Nat} (hb : w.heap[r]? = some (.map es clock)) : (getObj r).run P w = .ok (.map es clock) w := by simp [getObj, Sem.run, hb]

theorem evQ_ok (hW : WR c) (hE : ER c en N a.tmps) (h : evQ (dec P o) en c.st = some x) : Val P c a o x := by
  have ev := fun y => hE.opA (a := a) y
  cases ho : o.op with
  | move y =>
    simp only [dec, ho, evQ, Option.some.injEq] at h; subst h
    exact val_ret (by simp [execOp, ho]) (ev y)
  | assign y =>
    simp only [dec, ho, evQ, Option.some.injEq] at h; subst h
    exact val_ret (by simp [execOp, ho]) (ev y)
  | pick q y z =>
    simp only [dec, ho, evQ] at h
    split at h
    · rename_i b hb
      injection h with h; subst h
      have hq := ev q
      rw [hb] at hq
      have hqe : a.eval q = .bool b := by generalize a.eval q = u at hq; cases hq; rfl
      cases b
      · exact ⟨a.eval z, by simp [execOp, ho, hqe, asBool], ev z⟩
      · exact ⟨a.eval y, by simp [execOp, ho, hqe, asBool], ev y⟩
    · cases h
  | load t y =>
    simp only [dec, ho] at h
    split at h
    · rename_i d i hd hi
      exact val_load hW ho hd hi (ev y) h
    · simp [evQ] at h
  | build t parts =>
    have hd := h
    cases hdec : dec P o with
    | build zs ps =>
      rw [hdec] at h
      simp only [evQ, Option.map_eq_some_iff] at h
      obtain ⟨cs, h1, rfl⟩ := h
      exact val_build ho hE hdec h1
    | raw _ => rw [hdec] at h; simp [evQ] at h
    | _ => exfalso; simp only [dec, ho] at hdec; (repeat' split at hdec) <;> cases hdec
  | nilCheck y =>
    simp only [dec, ho, evQ] at h
    have hy := ev y
    split at h
    all_goals first
      | (rename_i he; injection h with h; subst h; rw [he] at hy
         refine ⟨a.eval y, ?_, hy⟩
         generalize hv : a.eval y = v at hy
         cases hy <;> simp [execOp, ho, hv])
      | cases h
  | binOp op t y z t' =>
    simp only [dec, ho] at h
    have gen : ∀ d, P.underlying t = some d → binA op d (opA en y) (opA en z) = some x → Val P c a o x := fun d hd h => by
      refine val_of (s := do eqGuard op t y z (a.eval y) (a.eval z); binOp op t (a.eval y) (a.eval z)) (by simp [execOp, ho]) ?_
      exact bin_ok (ev y) (ev z) h hd
    split at h
    · rename_i e hd
      split at h
      · rename_i hz
        have hzv : a.eval z = .slice none 0 0 := by
          cases z with
          | const u =>
            cases u <;> simp [isNilC] at hz
            rename_i ad n cp
            cases ad <;> cases n <;> cases cp <;> simp [isNilC] at hz
            rfl
          | _ => simp [isNilC] at hz
        have nn : ∀ n, slen (opA en y) = some (n + 1) → ∃ ad m cp, a.eval y = .slice (some ad) m cp := fun n hn => by
          obtain ⟨ad, cp, hv, h0, _⟩ := (ev y).slen_ok hn
          cases ad with
          | none => have := h0.1 rfl; omega
          | some ad => exact ⟨ad, _, cp, hv⟩
        split at h
        · simp only [evQ] at h
          split at h
          · rename_i n hn
            injection h with h; subst h
            obtain ⟨ad, m, cp, hv⟩ := nn n hn
            refine val_of (s := do eqGuard .eql t y z (a.eval y) (a.eval z); binOp .eql t (a.eval y) (a.eval z)) (by simp [execOp, ho]) ⟨.bool false, ?_, .sc rfl⟩
            rw [Sem.run_bind, run_eqGuard_quiet _ _ _ _ _ _ _ (by rw [hv]; simp) (by rw [hv]; simp), hv, hzv]
            simp only [Result.andThen_ok]
            show (do pure (.bool (← Op.equalIn (9999 + 1) t (.slice (some ad) m cp) (.slice none 0 0))) : Sem Value).run P c.w = _
            rw [Sem.run_bind, Op.equalIn, Sem.run_bind, run_under hd]; rfl
          · cases h
        · simp only [evQ] at h
          split at h
          · rename_i n hn
            injection h with h; subst h
            obtain ⟨ad, m, cp, hv⟩ := nn n hn
            refine val_of (s := do eqGuard .neq t y z (a.eval y) (a.eval z); binOp .neq t (a.eval y) (a.eval z)) (by simp [execOp, ho]) ⟨.bool true, ?_, .sc rfl⟩
            rw [Sem.run_bind, run_eqGuard_quiet _ _ _ _ _ _ _ (by rw [hv]; simp) (by rw [hv]; simp), hv, hzv]
            simp only [Result.andThen_ok]
            show (do pure (.bool (!(← Op.equalIn (9999 + 1) t (.slice (some ad) m cp) (.slice none 0 0)))) : Sem Value).run P c.w = _
            rw [Sem.run_bind, Op.equalIn, Sem.run_bind, run_under hd]; rfl
          · cases h
        · exact gen _ hd h
      · exact gen _ hd h
    · rename_i d hd
      exact gen _ hd h
    · simp [evQ] at h
  | unOp op t y =>
    simp only [dec, ho, evQ] at h
    have hy := ev y
    refine val_of (s := Op.unary op (a.eval y)) (by simp [execOp, ho]) ?_
    split at h
    · rename_i b he
      injection h with h; subst h
      rw [he] at hy
      generalize a.eval y = v at hy
      cases hy
      exact ⟨_, rfl, .sc rfl⟩
    · rename_i k n he
      injection h with h; subst h
      rw [he] at hy
      generalize a.eval y = v at hy
      cases hy
      exact ⟨_, rfl, .sc (plain_wrap _ _)⟩
    · rename_i k n he
      injection h with h; subst h
      rw [he] at hy
      generalize a.eval y = v at hy
      cases hy
      exact ⟨_, rfl, .sc (plain_wrap _ _)⟩
    · cases h
  | convert s d y =>
    simp only [dec, ho] at h
    split at h
    · rename_i k0 k hs hd
      simp only [evQ] at h
      have hy := ev y
      refine val_of (s := convert s d (a.eval y)) (by simp [execOp, ho]) ?_
      split at h
      · rename_i k1 n he
        injection h with h; subst h
        rw [he] at hy
        generalize a.eval y = v at hy
        cases hy
        refine ⟨.int k (k.wrap n), ?_, .sc (plain_wrap _ _)⟩
        unfold convert
        simp only [Sem.run_bind, run_under hs, run_under hd, Result.andThen_ok]
        rfl
      · cases h
    · simp [evQ] at h
  | makeFunc fn first caps =>
    simp only [dec, ho] at h
    cases fn with
    | func f =>
      simp only [evQ, Option.some.injEq] at h; subst h
      refine ⟨.func (.func f) (first.map a.eval) (caps.map a.eval), by simp [execOp, ho, Instr.makeFunc, Sem.run_bind], .fn (by simp) (by simp) (fun i x v hx hv => ?_)⟩
      rw [← Array.map_append] at hv
      have hx' : ((first ++ caps).toList.map (opA en))[i]? = some x := by simpa using hx
      simp only [List.getElem?_map, Array.getElem?_toList, Array.getElem?_map] at hx' hv
      cases hc : (first ++ caps)[i]? with
      | none => rw [hc] at hx'; cases hx'
      | some q => rw [hc] at hx' hv; simp at hx' hv; subst hx'; subst hv; exact ev q
    | _ => simp [evQ] at h
  | fieldAddr t y i =>
    simp only [dec, ho] at h
    split at h
    · rename_i fs hu
      split at h
      · rename_i f hf
        split at h
        · rename_i s hs
          split at h
          · simp [evQ] at h
          · rename_i hnz
            simp only [evQ] at h
            have hy := ev y
            refine val_of (s := Instr.fieldAt t (a.eval y) i) (by simp [execOp, ho]) ?_
            have hrun : ∀ b of, a.eval y = .pointer (some ⟨b, of, none⟩) → (Instr.fieldAt t (a.eval y) i).run P c.w = .ok (.pointer (some ⟨b, of + f.offset, none⟩)) c.w := fun b of he => by
              rw [he]
              unfold Instr.fieldAt
              simp only [Sem.run_bind, run_under hu, Result.andThen_ok, hf, Instr.sureAddr, Sem.run_pure, fieldPlace, run_size hs, hnz, if_false, pointer_add]
            split at h
            · rename_i j of he
              injection h with h; subst h
              rw [he] at hy
              generalize hv : a.eval y = v at hy hrun
              cases hy with
              | ref hh => exact ⟨_, hrun _ _ rfl, .ref hh⟩
            · rename_i s' sz j of he
              injection h with h; subst h
              rw [he] at hy
              generalize hv : a.eval y = v at hy hrun
              cases hy with
              | @ep _ _ _ _ n cp ad hs' hi =>
                refine ⟨_, hrun _ _ rfl, ?_⟩
                have := VR.ep (off := of + f.offset) (sz := sz) hs' hi
                rwa [show ad.off + (j * sz + (of + f.offset)) = ad.off + (j * sz + of) + f.offset by omega] at this
            · cases h
        · simp [evQ] at h
      · simp [evQ] at h
    · simp [evQ] at h
  | field t y i =>
    simp only [dec, ho] at h
    split at h
    · rename_i fs hu
      split at h
      · rename_i f hf
        split at h
        · rename_i d s hd hs
          simp only [evQ] at h
          have hy := ev y
          refine val_of (s := Instr.field t (a.eval y) i) (by simp [execOp, ho]) ?_
          split at h
          · rename_i cs he
            rw [he] at hy
            generalize a.eval y = v at hy
            cases hy with
            | @agg _ vs hl h1 hh =>
              obtain ⟨p1, p2⟩ := VR.part (c := c) hl h1 hh h
              unfold Instr.field
              simp only [Sem.run_bind, run_under hu, Result.andThen_ok, hf, asAgg, Sem.run_pure, part, run_agg hd]
              cases hd' : tyAgg d with
              | true =>
                obtain ⟨_, k⟩ := p1 hd'
                exact ⟨_, by simp [Sem.run_bind, run_size hs]; done, k⟩
              | false =>
                obtain ⟨u, k1, k2⟩ := p2 hd'
                exact ⟨u, by simp [k1], k2⟩
          · cases h
        · simp [evQ] at h
      · simp [evQ] at h
    · simp [evQ] at h
  | indexAddr t y z =>
    simp only [dec, ho] at h
    have hy := ev y
    have hz := ev z
    split at h
    · rename_i e hu
      split at h
      · rename_i s hs
        simp only [evQ] at h
        split at h
        · rename_i n k hn hk
          split at h
          · rename_i hkn
            injection h with h; subst h
            obtain ⟨kk, hzv⟩ := hz.natA_ok hk
            obtain ⟨ad, cp, hyv, hnil, _, _, _⟩ := hy.slen_ok hn
            refine val_of (s := Instr.indexAt t (a.eval y) (a.eval z)) (by simp [execOp, ho]) ?_
            rw [hyv] at hy
            cases ad with
            | none => have := hnil.1 rfl; omega
            | some ad =>
              refine ⟨.pointer (some (ad.add (k * s.size))), ?_, ?_⟩
              · rw [hyv, hzv]
                unfold Instr.indexAt
                simp only [Sem.run_bind, asIntOf, Sem.run_pure, Result.andThen_ok, run_under hu]
                rw [if_pos ⟨by omega, by omega⟩]
                simp [run_size hs]
              · have := VR.ep (off := 0) (sz := s.size) (i := k) hy hkn
                have hsp := hnil.2 ad rfl (by omega)
                obtain ⟨bb, bo, bs⟩ := ad
                simp only at hsp; subst hsp
                rw [pointer_add]; exact this
          · cases h
        · cases h
      · simp [evQ] at h
    · rename_i n e hu
      split at h
      · rename_i s hs
        simp only [evQ] at h
        have hrun : ∀ b of k kk, a.eval y = .pointer (some ⟨b, of, none⟩) → a.eval z = .int kk (k : Nat) → k < n → (Instr.indexAt t (a.eval y) (a.eval z)).run P c.w = .ok (.pointer (some ⟨b, of + k * s.size, none⟩)) c.w := fun b of k kk he hz hk => by
          rw [he, hz]
          unfold Instr.indexAt
          simp only [Sem.run_bind, asIntOf, Sem.run_pure, Result.andThen_ok, run_under hu, Instr.sureAddr]
          rw [if_pos ⟨by omega, by omega⟩]
          simp [run_size hs, pointer_add]
        split at h
        · rename_i j of k hyv hk
          split at h
          · rename_i hkn
            injection h with h; subst h
            obtain ⟨kk, hzv⟩ := hz.natA_ok hk
            refine val_of (s := Instr.indexAt t (a.eval y) (a.eval z)) (by simp [execOp, ho]) ?_
            rw [hyv] at hy
            generalize hv : a.eval y = v at hy hrun
            cases hy with
            | ref hh => exact ⟨_, hrun _ _ _ _ rfl hzv hkn, .ref hh⟩
          · cases h
        · rename_i s' sz j of k hyv hk
          split at h
          · rename_i hkn
            injection h with h; subst h
            obtain ⟨kk, hzv⟩ := hz.natA_ok hk
            refine val_of (s := Instr.indexAt t (a.eval y) (a.eval z)) (by simp [execOp, ho]) ?_
            rw [hyv] at hy
            generalize hv : a.eval y = v at hy hrun
            cases hy with
            | @ep _ _ _ _ n cp ad hs' hi =>
              refine ⟨_, hrun _ _ _ _ rfl hzv hkn, ?_⟩
              have := VR.ep (off := of + k * s.size) (sz := sz) hs' hi
              rwa [show ad.off + (j * sz + (of + k * s.size)) = ad.off + (j * sz + of) + k * s.size by omega] at this
          · cases h
        · cases h
      · simp [evQ] at h
    · simp [evQ] at h
  | index t y z =>
    simp only [dec, ho] at h
    split at h
    · rename_i hu
      simp only [evQ] at h
      split at h
      · rename_i s k hs hk
        split at h
        · rename_i b hb
          injection h with h; subst h
          obtain ⟨kk, hzv⟩ := (ev z).natA_ok hk
          have hy := ev y
          rw [hs] at hy
          refine val_of (s := Instr.index t (a.eval y) (a.eval z)) (by simp [execOp, ho]) ?_
          generalize a.eval y = v at hy
          cases hy
          refine ⟨.int .u8 b.toNat, ?_, .sc ?_⟩
          · rw [hzv]
            unfold Instr.index
            simp only [Sem.run_bind, asIntOf, Sem.run_pure, Result.andThen_ok, run_under hu]
            rw [if_pos (by omega)]
            simp only [Int.toNat_natCast, hb]
            rfl
          · have := b.toNat_lt
            simp [plainV, IntKind.min, IntKind.max, IntKind.bits, IntKind.signed] <;> omega
        · cases h
      · cases h
    · simp [evQ] at h
  | slice t y lo hi mx =>
    simp only [dec, ho] at h
    have hy := ev y
    split at h
    · rename_i e hu
      split at h
      · rename_i s hs
        simp only [evQ] at h
        split at h
        · rename_i clip xs he
          split at h
          · cases h
          · rename_i hall
            rw [he] at hy
            refine val_of (s := Instr.sliceAt t (a.eval y) (lo.map a.eval) (hi.map a.eval) (mx.map a.eval)) (by simp [execOp, ho]) ?_
            refine slcA_ok hu hs hy ?_ (opt_map ev lo).1 (opt_map ev lo).2 (opt_map ev hi).1 (opt_map ev hi).2 (opt_map ev mx).1 (opt_map ev mx).2 h
            cases lo with
            | none => exact .inl rfl
            | some l => right; simpa using hall
        · rename_i g n he
          have he' : slen (opA en y) = some n := by rw [he]; rfl
          split at h
          · split at h
            · rename_i h3
              injection h with h; subst h
              obtain ⟨r, hr⟩ := slc3_ok (P := P) hu hs hy he' (opt_map ev lo).1 (opt_map ev lo).2 (opt_map ev hi).1 (opt_map ev mx).1 h3
              exact val_of (s := Instr.sliceAt t (a.eval y) (lo.map a.eval) (hi.map a.eval) (mx.map a.eval)) (by simp [execOp, ho]) ⟨r, hr, .any⟩
            · cases h
          · rename_i hmx
            have hmx' : mx = none := by cases mx <;> simp at hmx ⊢
            subst hmx'
            refine val_of (s := Instr.sliceAt t (a.eval y) (lo.map a.eval) (hi.map a.eval) none) (by simp [execOp, ho]) ?_
            rw [he] at hy
            have h' := h
            unfold slcV at h'
            split at h'
            case h_2 => cases h'
            rename_i e0 sz0 xs hst
            split at h'
            case isFalse => cases h'
            rename_i hcond
            obtain ⟨hn, rfl, _⟩ := hcond
            exact slcV_ok hW hu hs (acc_av hW hst hn hy) (opt_map ev lo).1 (opt_map ev lo).2 (opt_map ev hi).1 (opt_map ev hi).2 h
        · rename_i g N sz' lo0 n he
          have he' : slen (opA en y) = some n := by rw [he]; rfl
          split at h
          · split at h
            · rename_i h3
              injection h with h; subst h
              obtain ⟨r, hr⟩ := slc3_ok (P := P) hu hs hy he' (opt_map ev lo).1 (opt_map ev lo).2 (opt_map ev hi).1 (opt_map ev mx).1 h3
              exact val_of (s := Instr.sliceAt t (a.eval y) (lo.map a.eval) (hi.map a.eval) (mx.map a.eval)) (by simp [execOp, ho]) ⟨r, hr, .any⟩
            · cases h
          · rename_i hmx
            have hmx' : mx = none := by cases mx <;> simp at hmx ⊢
            subst hmx'
            split at h
            · rename_i hsz
              subst hsz
              refine val_of (s := Instr.sliceAt t (a.eval y) (lo.map a.eval) (hi.map a.eval) none) (by simp [execOp, ho]) ?_
              rw [he] at hy
              exact slcV_ok hW hu hs hy (opt_map ev lo).1 (opt_map ev lo).2 (opt_map ev hi).1 (opt_map ev hi).2 h
            · cases h
        · cases h
      · simp [evQ] at h
    · rename_i hu
      split at h
      · rename_i hmx
        have hmx' : mx = none := by cases mx <;> simp at hmx ⊢
        subst hmx'
        simp only [evQ] at h
        split at h
        · rename_i s he
          rw [he] at hy
          refine val_of (s := Instr.sliceAt t (a.eval y) (lo.map a.eval) (hi.map a.eval) none) (by simp [execOp, ho]) ?_
          have hyv : a.eval y = .string s := by generalize a.eval y = v at hy; cases hy; rfl
          have hpl : plainV (.string s) = true := by rw [hyv] at hy; cases hy; assumption
          rw [hyv]
          unfold slcSA at h
          split at h
          · cases h
          · rename_i hh hhEq
            split at h
            · cases h
            · rename_i l hlEq
              split at h
              · rename_i hle
                injection h with h; subst h
                have hL : (lo.map a.eval = none ∧ l = 0) ∨ ∃ k, lo.map a.eval = some (.int k l) := by
                  cases lo with
                  | none => exact .inl ⟨rfl, by simpa using hlEq.symm⟩
                  | some q =>
                    obtain ⟨k, hk⟩ := (ev q).natA_ok hlEq
                    exact .inr ⟨k, by simp [hk]⟩
                have hH : (hi.map a.eval = none ∧ hh = s.size) ∨ ∃ k, hi.map a.eval = some (.int k hh) := by
                  cases hi with
                  | none => exact .inl ⟨rfl, by simpa using hhEq.symm⟩
                  | some q =>
                    obtain ⟨k, hk⟩ := (ev q).natA_ok hhEq
                    exact .inr ⟨k, by simp [hk]⟩
                have bound : ∀ (k : IntKind) (q y : Nat) (code : BoundsCode), q ≤ y → (Instr.sliceBound (.int k q) y code).run P c.w = .ok q c.w := fun k q y code hq => by
                  have := run_sliceBound (P := P) (w := c.w) k (q : Int) y code (by omega) (by omega)
                  simpa using this
                refine ⟨.string (s.extract l hh), ?_, .sc ?_⟩
                · have hB : (Instr.sliceBounds false s.size s.size (lo.map a.eval) (hi.map a.eval) none).run P c.w = .ok (l, hh, s.size) c.w := by
                    rcases hH with ⟨hh1, hh2⟩ | ⟨kh, hh1⟩ <;> rcases hL with ⟨hl1, hl2⟩ | ⟨kl, hl1⟩ <;> rw [hh1, hl1] <;>
                      simp only [Instr.sliceBounds, Sem.run_bind, Sem.run_pure, Result.andThen_ok, if_true] <;> (try rw [bound kh hh s.size _ hle.2]) <;> (try simp only [Result.andThen_ok]) <;>
                      (try rw [bound kl l _ _ (by omega)]) <;> simp [*]
                  unfold Instr.sliceAt
                  rw [Sem.run_bind, run_under hu]
                  simp only [Result.andThen_ok]
                  unfold Instr.slice
                  rw [Sem.run_bind, run_under hu]
                  simp only [Result.andThen_ok, Option.isSome_none, Bool.false_eq_true, if_false, Sem.run_bind, Sem.run_pure]
                  rw [hB]
                  rfl
                · simp only [plainV, decide_eq_true_eq] at hpl ⊢
                  simp only [ByteArray.size_extract]; omega
              · cases h
        · cases h
      · simp [evQ] at h
    · simp [evQ] at h
  | extract y i =>
    simp only [dec, ho, evQ] at h
    have hy := ev y
    split at h
    · rename_i vs he
      rw [he] at hy
      refine val_of (s := Instr.extract (a.eval y) i) (by simp [execOp, ho]) ?_
      generalize a.eval y = v at hy
      cases hy with
      | @tup _ ws hl hh =>
        have hlt : i < ws.size := by rw [← hl]; exact (List.getElem?_eq_some_iff.1 h).1
        exact ⟨ws[i], by simp [Instr.extract, Array.getElem?_eq_getElem hlt], hh i x _ h (Array.getElem?_eq_getElem hlt)⟩
    · cases h
  | call cl =>
    have one : ∀ {b : Builtin} {y : Operand} {ts : List TypeId}, cl.callee = .builtin b → cl.args.toList = [y] → cl.argTypes.toList = ts → cl.args = #[y] ∧ cl.argTypes = ts.toArray := fun _ h1 h2 =>
      ⟨by rw [← Array.toList_inj]; simpa using h1, by rw [← Array.toList_inj]; simpa using h2⟩
    cases hcal : cl.callee with
    | builtin bb =>
      cases bb with
      | len =>
        simp only [dec, ho, hcal] at h
        split at h
        case h_2 => simp [evQ] at h
        rename_i y t hargs htys
        obtain ⟨hA, hT⟩ := one hcal hargs htys
        have hy := ev y
        have hex : execOp a.eval o = (do pure (.value (← Builtin.len_ #[t] o.type #[a.eval y])) : Sem Next) := by
          simp [execOp, ho, resolve, hcal, hA, hT, invoke, builtin]
        refine val_of hex ?_
        split at h
        · rename_i hu
          simp only [evQ, lenA] at h
          split at h
          · rename_i s hs
            injection h with h; subst h
            rw [hs] at hy
            generalize a.eval y = v at hy
            cases hy with
            | sc hp =>
              refine ⟨.int .i64 s.size, by simp [Builtin.len_, Sem.run_bind, run_under hu, goInt], .sc ?_⟩
              simp [plainV, IntKind.min, IntKind.max, IntKind.bits, IntKind.signed] at hp ⊢; omega
          · cases h
        · rename_i e hu
          simp only [evQ, lenA] at h
          split at h
          case h_2 => cases h
          rename_i n hn
          injection h with h; subst h
          obtain ⟨ad, cp, hyv, _, hm, _, _⟩ := hy.slen_ok hn
          rw [hyv]
          refine ⟨.int .i64 n, by simp [Builtin.len_, Sem.run_bind, run_under hu, goInt], .sc ?_⟩
          simp [plainV, IntKind.min, IntKind.max, IntKind.bits, IntKind.signed]; omega
        · rename_i kt et hu
          simp only [evQ] at h
          split at h
          case h_2 => cases h
          rename_i i hi
          split at h
          case h_2 => cases h
          rename_i clk ents hst
          injection h with h; subst h
          rw [hi] at hy
          obtain ⟨b, k1, k2, k3, k4, _⟩ := hW.obj i _ hst
          generalize a.eval y = v at hy
          cases hy with
          | @mp _ b' hb =>
            rw [k1] at hb; injection hb with hb; injection hb with hb; injection hb with hb; subst hb
            refine ⟨.int .i64 ents.length, by simp [Builtin.len_, Sem.run_bind, run_under hu, rgm k2, goInt], .sc ?_⟩
            simp [plainV, IntKind.min, IntKind.max, IntKind.bits, IntKind.signed]; omega
        · simp [evQ] at h
      | cap =>
        simp only [dec, ho, hcal] at h
        split at h
        case h_2 => simp [evQ] at h
        rename_i y t hargs htys
        obtain ⟨hA, hT⟩ := one hcal hargs htys
        have hy := ev y
        have hex : execOp a.eval o = (do pure (.value (← Builtin.cap_ #[t] o.type #[a.eval y])) : Sem Next) := by
          simp [execOp, ho, resolve, hcal, hA, hT, invoke, builtin]
        refine val_of hex ?_
        split at h
        · rename_i e hu
          simp only [evQ] at h
          split at h
          case h_2 => cases h
          rename_i xs hx
          injection h with h; subst h
          rw [hx] at hy
          generalize a.eval y = v at hy
          cases hy with
          | @sl _ _ ad n cp sz vals hn hc hcl hm hb ha hsp hp hsz hcell h1 hvv =>
            have := hcl rfl
            refine ⟨.int .i64 xs.length, by simp [Builtin.cap_, Sem.run_bind, run_under hu, goInt]; omega, .sc ?_⟩
            simp [plainV, IntKind.min, IntKind.max, IntKind.bits, IntKind.signed]; omega
        · simp [evQ] at h
      | max =>
        simp only [dec, ho, hcal, evQ] at h
        refine val_of (s := Builtin.max_ cl.argTypes o.type (cl.args.map a.eval)) (by simp [execOp, ho, resolve, hcal, invoke, builtin]) ?_
        unfold Builtin.max_
        split at h
        · rename_i y r hyr
          obtain ⟨us, hus⟩ : ∃ us, cl.args.toList = us := ⟨_, rfl⟩
          rw [Array.toList_map, hus]
          rw [hus] at hyr
          cases us with
          | nil => cases hyr
          | cons p ps =>
            simp only [List.map_cons, List.cons.injEq] at hyr
            obtain ⟨rfl, rfl⟩ := hyr
            exact mm_ok (mx := true) ev (ev p) h
        · cases h
      | min =>
        simp only [dec, ho, hcal, evQ] at h
        refine val_of (s := Builtin.min_ cl.argTypes o.type (cl.args.map a.eval)) (by simp [execOp, ho, resolve, hcal, invoke, builtin]) ?_
        unfold Builtin.min_
        split at h
        · rename_i y r hyr
          obtain ⟨us, hus⟩ : ∃ us, cl.args.toList = us := ⟨_, rfl⟩
          rw [Array.toList_map, hus]
          rw [hus] at hyr
          cases us with
          | nil => cases hyr
          | cons p ps =>
            simp only [List.map_cons, List.cons.injEq] at hyr
            obtain ⟨rfl, rfl⟩ := hyr
            exact mm_ok (mx := false) ev (ev p) h
        · cases h
      | _ => simp only [dec, ho, hcal] at h; (repeat' split at h) <;> simp [evQ] at h
    | _ => simp only [dec, ho, hcal] at h; simp [evQ] at h
  | lookup t y z ok =>
    simp only [dec, ho] at h
    split at h
    case h_2 => simp [evQ] at h
    rename_i kt et hu
    split at h
    case h_2 => simp [evQ] at h
    rename_i zv hz
    split at h
    case h_2 => simp [evQ] at h
    rename_i tag hkt
    simp only [evQ] at h
    split at h
    case h_2 => cases h
    rename_i i key hi hkey
    split at h
    case h_2 => cases h
    rename_i clk ents hst
    obtain ⟨b, k1, k2, k3, k4⟩ := hW.obj i _ hst
    have hy := ev y
    rw [hi] at hy
    have hyv : a.eval y = .map (some b) := by
      generalize a.eval y = v at hy
      cases hy with
      | mp hb => rw [k1] at hb; injection hb with hb; exact hb.symm
    obtain ⟨hkv, htag⟩ := keyG_val (ev z) hkey
    have hzr : ∀ w : World, (zeroValue et).run P w = .ok zv w := fun w => by
      cases hi : P.info? et with
      | none => simp [hi] at hz
      | some i => simp [hi] at hz; simp [zeroValue, run_tinfo hi, Sem.run_bind, hz]
    refine val_of (s := Instr.lookup t (a.eval y) (a.eval z) ok) (by simp [execOp, ho]) ?_
    rw [hkv]
    have hf : ∀ r, findK key ents 0 = some r → (Instr.findKey kt key ents).run P c.w = .ok (r.bind fun j => (ents[j]?).map fun e => (j, e.val)) c.w := fun r hr => find_ok hkt htag hr
    have hck : (Instr.checkKey ents.isEmpty 10000 kt key).run P c.w = .ok () c.w := check_ok hkt htag _
    unfold Instr.lookup
    rw [hyv]
    have hge : (getObj b).run P c.w = .ok (.map ents.toArray clk) c.w := rgm k2
    simp only [Sem.run_bind, run_under hu, Result.andThen_ok, hge, Sem.run_pure, List.isEmpty_toArray, hck]
    split at h
    · rename_i j hj
      rw [hf _ hj]
      split at h
      case h_2 => cases h
      rename_i e he
      injection h with h; subst h
      cases ok with
      | true => exact ⟨.tuple #[e.val, .bool true], by simp [he], .tup rfl (fun i x v hx hv => by
          match i, hx, hv with
          | 0, hx, hv => simp at hx hv; subst hx; subst hv; exact .constA _
          | 1, hx, hv => simp at hx hv; subst hx; subst hv; exact .sc rfl)⟩
      | false => exact ⟨e.val, by simp [he], .constA _⟩
    · rename_i hj
      rw [hf _ hj]
      injection h with h; subst h
      cases ok with
      | true => exact ⟨.tuple #[zv, .bool false], by simp [hzr, Sem.run_bind], .tup rfl (fun i x v hx hv => by
          match i, hx, hv with
          | 0, hx, hv => simp at hx hv; subst hx; subst hv; exact .constA _
          | 1, hx, hv => simp at hx hv; subst hx; subst hv; exact .sc rfl)⟩
      | false => exact ⟨zv, by simp [hzr, Sem.run_bind], .constA _⟩
    · cases h
  | entry y =>
    simp only [dec, ho, evQ] at h
    split at h
    case h_2 => cases h
    rename_i i hi
    split at h
    case h_2 => cases h
    rename_i m since seen last hst
    split at h
    case h_2 => cases h
    rename_i clk ents hm
    split at h
    case isFalse => cases h
    rename_i hcl
    split at h
    case h_2 => cases h
    rename_i b0 hb0
    split at h
    case h_2 => cases h
    rename_i e he
    injection h with h; subst h
    subst hcl
    obtain ⟨_, b, bm, k1, k2, k3⟩ := hW.obj i _ hst
    obtain ⟨bm', q1, q2, _⟩ := hW.obj m _ hm
    rw [k2] at q1; injection q1 with q1; injection q1 with q1; injection q1 with q1; subst q1
    have hy := ev y
    rw [hi] at hy
    refine val_of (s := Instr.entry (a.eval y)) (by simp [execOp, ho]) ?_
    generalize a.eval y = v at hy
    cases hy with
    | @ref _ _ b' hb =>
      rw [k1] at hb; injection hb with hb; injection hb with hb; injection hb with hb; injection hb with hb; subst hb
      have hbk : (seen.toArray).back? = some b0 := by simpa using hb0
      have hgi : (getObj b).run P c.w = .ok (.mapIter (some bm) since seen.toArray clk) c.w := by simp [getObj, Sem.run, k3]
      have hgm : (getObj bm).run P c.w = .ok (.map ents.toArray clk) c.w := rgm q2
      have hfd : ents.toArray.find? (fun x => x.born == b0) = some e := by rw [List.find?_toArray]; exact he
      refine ⟨.tuple #[e.key, e.val], ?_, .tup rfl (fun i x v hx hv => ?_)⟩
      · unfold Instr.entry
        simp [Sem.run_bind, hgi, hgm, hbk, hfd]
      · match i, hx, hv with
        | 0, hx, hv => simp at hx hv; subst hx; subst hv; exact .constA _
        | 1, hx, hv => simp at hx hv; subst hx; subst hv; exact .constA _
  | makeMap t r => cases r <;> simp [dec, ho, evQ] at h
  | mapUpdate t y z u => simp only [dec, ho] at h; (repeat' split at h) <;> simp [evQ] at h
  | insert t y z u => simp only [dec, ho] at h; (repeat' split at h) <;> simp [evQ] at h
  | mapEntry t y z => simp only [dec, ho] at h; (repeat' split at h) <;> simp [evQ] at h
  | range t y => simp only [dec, ho] at h; (repeat' split at h) <;> simp [evQ] at h
  | next y b => cases b <;> simp [dec, ho, evQ] at h
  | alloc t => simp only [dec, ho] at h; (repeat' split at h) <;> simp [evQ] at h
  | box t y => simp [dec, ho, evQ] at h
  | buildSlice t n ps => simp only [dec, ho] at h; (repeat' split at h) <;> simp [evQ] at h
  | store t y z => simp only [dec, ho] at h; (repeat' split at h) <;> simp [evQ] at h
  | _ => simp [dec, ho, evQ] at h

end
end Go.AW
