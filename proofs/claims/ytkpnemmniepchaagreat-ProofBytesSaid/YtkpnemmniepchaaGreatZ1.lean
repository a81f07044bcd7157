/-
  The laws of the codec.
-/
import Derived.Test.YtkpnemmniepchaaGreatY3
/-
  What is put is read as it was; what is read is put the same: numbers and terms.
-/
namespace Go.AW
open Go
set_option linter.unusedVariables false
set_option linter.unusedSimpArgs false

theorem putU_small {n : Nat} (h : n < 128) : putU n = [UInt8.ofNat n] := by rw [putU, if_pos h]
theorem putU_big {n : Nat} (h : ¬ n < 128) : putU n = UInt8.ofNat (n % 128 + 128) :: putU (n / 128) := by rw [putU, if_neg h]
theorem toNat_ofNat {n : Nat} (h : n < 256) : (UInt8.ofNat n).toNat = n := by
  rw [UInt8.toNat_ofNat']; exact Nat.mod_eq_of_lt h
theorem putU_ne {n : Nat} : putU n ≠ [] := by
  rw [putU]; split <;> simp

theorem pow_lt {i : Nat} (h : 128 ^ (i + 1) < 18446744073709551616) : i ≤ 8 := by
  by_cases hi : i ≤ 8
  · exact hi
  · have : 128 ^ 10 ≤ 128 ^ (i + 1) := Nat.pow_le_pow_right (by omega) (by omega)
    have e : (128 : Nat) ^ 10 = 1180591620717411303424 := by decide
    omega

theorem uM_put : ∀ (m i acc : Nat) (rest : List UInt8), i ≤ 9 → m * 128 ^ i < 18446744073709551616 → (0 < i → 0 < m) → uM (putU m ++ rest) i acc = .ok (acc + m * 128 ^ i, i + (putU m).length) := by
  intro m
  induction m using Nat.strongRecOn with
  | _ m ih =>
    intro i acc rest hi hm h0
    by_cases h : m < 128
    · rw [putU_small h]
      have hc : (UInt8.ofNat m).toNat = m := toNat_ofNat (by omega)
      simp only [List.singleton_append, uM, hc]
      have h9 : ¬ (i = 10 ∨ (i = 9 ∧ 1 < m)) := by
        rintro (h1 | ⟨h1, h2⟩)
        · omega
        · subst h1
          have e : (128 : Nat) ^ 9 = 9223372036854775808 := by decide
          rw [e] at hm
          omega
      rw [if_neg h9, if_pos h, if_neg (by omega), Nat.mod_eq_of_lt h]
      simp
    · rw [putU_big h]
      have hc : (UInt8.ofNat (m % 128 + 128)).toNat = m % 128 + 128 := toNat_ofNat (by omega)
      have h8 : i ≤ 8 := by
        apply pow_lt
        rw [Nat.pow_succ]
        have := Nat.mul_le_mul_right (128 ^ i) (show 128 ≤ m by omega)
        rw [Nat.mul_comm (128 ^ i)]; omega
      simp only [List.cons_append, uM, hc]
      rw [if_neg (by omega), if_neg (by omega), show (m % 128 + 128) % 128 = m % 128 by omega]
      have hdm : m % 128 * 128 ^ i + m / 128 * 128 ^ (i + 1) = m * 128 ^ i := by
        rw [Nat.pow_succ, Nat.mul_comm (128 ^ i) 128, ← Nat.mul_assoc, ← Nat.add_mul]
        congr 1; omega
      rw [ih (m / 128) (by omega) (i + 1) _ rest (by omega) (by omega) (fun _ => by omega)]
      simp only [List.length_cons]
      congr 2
      · omega
      · omega

theorem uM_ok : ∀ {bs : List UInt8} {i acc v k : Nat}, uM bs i acc = .ok (v, k) → ∃ m, v = acc + m * 128 ^ i ∧ bs = putU m ++ bs.drop (k - i) ∧ k = i + (putU m).length ∧ (0 < i → 0 < m)
  | [], i, acc, v, k, h => by simp [uM] at h
  | c :: r, i, acc, v, k, h => by
    have hc256 := c.toNat_lt
    simp only [uM] at h
    split at h
    · cases h
    · split at h
      · rename_i hc
        split at h
        · cases h
        · rename_i hz
          injection h with h; injection h with h1 h2
          subst h1; subst h2
          refine ⟨c.toNat, by rw [Nat.mod_eq_of_lt hc], ?_, by rw [putU_small hc]; rfl, fun hi => by omega⟩
          rw [putU_small hc, UInt8.ofNat_toNat]
          simp
      · rename_i hc
        obtain ⟨m, h1, h2, h3, h4⟩ := uM_ok h
        have hm : 0 < m := h4 (by omega)
        have hbig : ¬ (c.toNat % 128 + 128 * m) < 128 := by omega
        have e1 : (c.toNat % 128 + 128 * m) % 128 + 128 = c.toNat := by omega
        have e2 : (c.toNat % 128 + 128 * m) / 128 = m := by omega
        have hp : putU (c.toNat % 128 + 128 * m) = c :: putU m := by rw [putU_big hbig, e1, e2, UInt8.ofNat_toNat]
        refine ⟨c.toNat % 128 + 128 * m, ?_, ?_, ?_, fun _ => by omega⟩
        · rw [h1, Nat.add_mul, Nat.pow_succ, Nat.add_assoc]
          congr 2
          rw [Nat.mul_comm 128 m, Nat.mul_assoc, Nat.mul_comm 128]
        · rw [hp]
          have hk : k - i = (k - (i + 1)) + 1 := by omega
          rw [hk, List.drop_succ_cons, List.cons_append, ← h2]
        · rw [hp, List.length_cons]; omega

theorem drop_more {bs x rest : List UInt8} {a : Nat} (h : bs.drop a = x ++ rest) : bs.drop (a + x.length) = rest := by
  rw [← List.drop_drop, h, List.drop_left]

theorem uintR_put {bs rest : List UInt8} {a n : Nat} (hn : n < 18446744073709551616) (h : bs.drop a = putU n ++ rest) : uintR bs a = .ok (n, a + (putU n).length) := by
  unfold uintR
  rw [h, uM_put n 0 0 rest (by omega) (by simpa using hn) (fun h => by omega)]
  simp
theorem uintR_ok {bs : List UInt8} {a v k : Nat} (h : uintR bs a = .ok (v, k)) : bs.drop a = putU v ++ bs.drop k ∧ k = a + (putU v).length := by
  unfold uintR at h
  split at h
  · rename_i n q hu
    injection h with h; injection h with h1 h2
    subst h1; subst h2
    obtain ⟨m, e1, e2, e3, _⟩ := uM_ok hu
    have hm : n = m := by simpa using e1
    subst hm
    have e3' : q = (putU n).length := by omega
    subst e3'
    refine ⟨?_, rfl⟩
    rw [Nat.sub_zero, List.drop_drop] at e2
    exact e2
  · cases h
theorem intR_put {bs rest : List UInt8} {a : Nat} {n : Int} (h1 : -9223372036854775808 ≤ n) (h2 : n ≤ 9223372036854775807) (h : bs.drop a = putI n ++ rest) : intR bs a = .ok (n, a + (putI n).length) := by
  unfold intR
  rw [uintR_put (zig_lt h1 h2) h]
  simp only [zag_zig]; rfl
theorem intR_ok {bs : List UInt8} {a k : Nat} {v : Int} (h : intR bs a = .ok (v, k)) : bs.drop a = putI v ++ bs.drop k ∧ k = a + (putI v).length := by
  unfold intR at h
  split at h
  · rename_i n q hu
    injection h with h; injection h with h1 h2
    subst h1; subst h2
    simp only [putI, zig_zag]
    exact uintR_ok hu
  · cases h

/-- What was read. -/
structure Rd (bs : List UInt8) (r : RS) (enc : List UInt8) (r' : RS) : Prop where
  e0 : r.e = 0
  dr : bs.drop r.at_ = enc ++ bs.drop r'.at_
theorem Rd.nil {bs : List UInt8} {r : RS} (h : r.e = 0) : Rd bs r [] r := ⟨h, rfl⟩
theorem Rd.app {bs x y : List UInt8} {a b c : RS} (h : Rd bs a x b) (k : Rd bs b y c) : Rd bs a (x ++ y) c := ⟨h.e0, by rw [h.dr, k.dr, List.append_assoc]⟩

theorem countR_rd {bs : List UInt8} {most n : Nat} {r r' : RS} (h : countR bs most r = (n, r')) (he : r'.e = 0) : Rd bs r (putU n) r' ∧ n ≤ most := by
  unfold countR at h
  split at h
  · injection h with h1 h2; subst h2; rename_i hne; exact absurd he hne
  · rename_i h0
    split at h
    · rename_i e hu
      have := uintR_err hu
      injection h with h1 h2; subst h2
      simp only at he; omega
    · rename_i v k hu
      split at h
      · rename_i hle
        injection h with h1 h2; subst h1; subst h2
        exact ⟨⟨by simpa using h0, (uintR_ok hu).1⟩, hle⟩
      · injection h with h1 h2; subst h2; simp at he
theorem numR_rd {bs : List UInt8} {v : Int} {r r' : RS} (h : numR bs r = (v, r')) (he : r'.e = 0) : Rd bs r (putI v) r' ∧ smI v := by
  unfold numR at h
  split at h
  · injection h with h1 h2; subst h2; rename_i hne; exact absurd he hne
  · rename_i h0
    split at h
    · rename_i e hu
      have := intR_err hu
      injection h with h1 h2; subst h2
      simp only at he; omega
    · rename_i w k hu
      split at h
      · rename_i hle
        injection h with h1 h2; subst h1; subst h2
        exact ⟨⟨by simpa using h0, (intR_ok hu).1⟩, hle⟩
      · injection h with h1 h2; subst h2; simp at he
theorem manyR_rd {bs : List UInt8} {α : Type} {f : RS → α × RS} {enc : α → List UInt8} {ok : α → Prop} (hf : ∀ r x r', f r = (x, r') → r'.e = 0 → Rd bs r (enc x) r' ∧ ok x) :
    ∀ {n : Nat} {r : RS} {L : List α} {r' : RS}, manyR f n r = (L, r') → r'.e = 0 → L.length = n ∧ Rd bs r (L.flatMap enc) r' ∧ ∀ x ∈ L, ok x
  | 0, r, L, r', h, he => by
    simp only [manyR] at h
    injection h with h1 h2; subst h1; subst h2
    exact ⟨rfl, .nil he, by simp⟩
  | n + 1, r, L, r', h, he => by
    simp only [manyR] at h
    split at h
    · injection h with h1 h2; subst h2; rename_i hne; exact absurd he hne
    · rcases hq : f r with ⟨x, r1⟩
      rw [hq] at h
      simp only at h
      rcases hm : manyR f n r1 with ⟨M, r2⟩
      rw [hm] at h
      injection h with h1 h2; subst h1; subst h2
      obtain ⟨k1, k2, k3⟩ := manyR_rd hf hm he
      obtain ⟨k4, k5⟩ := hf _ _ _ hq k2.e0
      exact ⟨by simp [k1], by rw [List.flatMap_cons]; exact k4.app k2, by intro y hy; rcases List.mem_cons.1 hy with rfl | hy; exact k5; exact k3 y hy⟩
theorem termR_rd {bs : List UInt8} : ∀ {g : Nat} {r : RS} {t : Tm} {r' : RS}, termR bs g r = (t, r') → r'.e = 0 → Rd bs r (putT t) r' ∧ t.sm
  | 0, r, t, r', h, he => by
    simp only [termR] at h
    split at h
    · injection h with h1 h2; subst h2; rename_i hne; exact absurd he hne
    · split at h
      · rename_i e hu
        have := intR_err hu
        injection h with h1 h2; subst h2; simp only at he; omega
      · injection h with h1 h2; subst h2; simp at he
  | g + 1, r, t, r', h, he => by
    simp only [termR] at h
    split at h
    · injection h with h1 h2; subst h2; rename_i hne; exact absurd he hne
    · rename_i h0
      split at h
      · rename_i e hu
        have := intR_err hu
        injection h with h1 h2; subst h2; simp only at he; omega
      · rename_i f k hu
        have hi : Rd bs r (putI f) ⟨k, 0⟩ := ⟨by simpa using h0, (intR_ok hu).1⟩
        split at h
        · rename_i hr
          split at h
          · rename_i hf
            injection h with h1 h2; subst h1; subst h2
            refine ⟨?_, ⟨hr, by simp, by simp [Tm.smL]⟩⟩
            simp only [putT, hf, if_true, List.append_nil]; exact hi
          · rename_i hf
            rcases hc : countR bs 4096 ⟨k, 0⟩ with ⟨n, r1⟩
            rw [hc] at h
            simp only at h
            rcases hm : manyR (termR bs g) n r1 with ⟨L, r2⟩
            rw [hm] at h
            injection h with h1 h2; subst h1; subst h2
            obtain ⟨k1, k2, k3⟩ := manyR_rd (ok := Tm.sm) (fun r x r' h he => termR_rd h he) hm he
            obtain ⟨k4, k5⟩ := countR_rd hc k2.e0
            refine ⟨?_, ⟨hr, by simp only; omega, smL_iff.2 k3⟩⟩
            simp only [putT, hf, if_false, k1, putTL_map]
            exact hi.app (k4.app k2)
        · injection h with h1 h2; subst h2; simp at he
end Go.AW

/-
  What is put is read as it was; what is read is put the same: clauses, nodes, proofs.
-/
namespace Go.AW
open Go
set_option linter.unusedVariables false
set_option linter.unusedSimpArgs false

theorem litsR_rd {bs : List UInt8} : ∀ {n : Nat} {r : RS} {L : List Li} {r' : RS}, litsR bs n r = (L, r') → r'.e = 0 → L.length = n ∧ Rd bs r (L.flatMap putL) r' ∧ ∀ l ∈ L, l.sm
  | 0, r, L, r', h, he => by
    simp only [litsR] at h
    injection h with h1 h2; subst h1; subst h2
    exact ⟨rfl, .nil he, by simp⟩
  | n + 1, r, L, r', h, he => by
    simp only [litsR] at h
    rcases hc : countR bs 1 r with ⟨sg, r1⟩
    rw [hc] at h
    simp only at h
    rcases ha : termR bs 257 r1 with ⟨a, r2⟩
    rw [ha] at h
    simp only at h
    rcases hb : termR bs 257 r2 with ⟨b, r3⟩
    rw [hb] at h
    simp only at h
    split at h
    · injection h with h1 h2; subst h2; rename_i hne; exact absurd he hne
    · rcases hm : litsR bs n r3 with ⟨M, r4⟩
      rw [hm] at h
      injection h with h1 h2; subst h1; subst h2
      obtain ⟨k1, k2, k3⟩ := litsR_rd hm he
      obtain ⟨b1, b2⟩ := termR_rd hb k2.e0
      obtain ⟨a1, a2⟩ := termR_rd ha b1.e0
      obtain ⟨c1, c2⟩ := countR_rd hc a1.e0
      have hs : putU (if ((sg : Int) == 1) = true then 1 else 0) = putU sg := by
        have : sg = 0 ∨ sg = 1 := by omega
        rcases this with rfl | rfl <;> rfl
      refine ⟨by simp [k1], ?_, ?_⟩
      · rw [List.flatMap_cons, putL, hs]
        exact ((c1.app a1).app b1).app k2
      · intro l hl
        rcases List.mem_cons.1 hl with rfl | hl
        · exact ⟨a2, b2⟩
        · exact k3 l hl
theorem clauseR_rd {bs : List UInt8} {a k : Nat} {c : List Li} (h : clauseR bs a = .ok (c, k)) : bs.drop a = putC c ++ bs.drop k ∧ ∀ l ∈ c, l.sm := by
  unfold clauseR at h
  rcases hc : countR bs 4096 ⟨a, 0⟩ with ⟨n, r1⟩
  rw [hc] at h
  simp only at h
  rcases hm : litsR bs n r1 with ⟨L, r2⟩
  rw [hm] at h
  simp only at h
  split at h
  · cases h
  · rename_i he
    injection h with h; injection h with h1 h2
    subst h1; subst h2
    obtain ⟨k1, k2, k3⟩ := litsR_rd hm (by simpa using he)
    obtain ⟨k4, k5⟩ := countR_rd hc k2.e0
    refine ⟨?_, k3⟩
    have := (k4.app k2).dr
    rw [putC, k1]; exact this
theorem nodeR_rd {bs : List UInt8} {r r' : RS} {n : Nd} (h : nodeR bs r = (n, r')) (he : r'.e = 0) : Rd bs r (putN n) r' ∧ n.sm := by
  unfold nodeR at h
  rcases h1 : numR bs r with ⟨v1, r1⟩
  rw [h1] at h
  simp only at h
  rcases h2 : numR bs r1 with ⟨v2, r2⟩
  rw [h2] at h
  simp only at h
  rcases h3 : numR bs r2 with ⟨v3, r3⟩
  rw [h3] at h
  simp only at h
  rcases h4 : numR bs r3 with ⟨v4, r4⟩
  rw [h4] at h
  simp only at h
  split at h
  · injection h with e1 e2; subst e2; rename_i hne; exact absurd he hne
  · rename_i h0
    split at h
    · rename_i e hu
      have := clauseR_err hu
      injection h with e1 e2; subst e2; exact absurd he this
    · rename_i c k hu
      injection h with e1 e2; subst e1; subst e2
      obtain ⟨q4, s4⟩ := numR_rd h4 (by simpa using h0)
      obtain ⟨q3, s3⟩ := numR_rd h3 q4.e0
      obtain ⟨q2, s2⟩ := numR_rd h2 q3.e0
      obtain ⟨q1, s1⟩ := numR_rd h1 q2.e0
      obtain ⟨c1, c2⟩ := clauseR_rd hu
      have hc : Rd bs r4 (putC c) ⟨k, 0⟩ := ⟨by simpa using h0, c1⟩
      exact ⟨(((q1.app q2).app q3).app q4).app hc, s1, s2, s3, s4, c2⟩
theorem eventR_rd {bs : List UInt8} {r r' : RS} {e : Ev} (h : eventR bs r = (e, r')) (he : r'.e = 0) (hk : e.kind = 0) : Rd bs r (putEv e.n) r' ∧ e.n.sm := by
  unfold eventR at h
  rcases h1 : countR bs 7 r with ⟨kd, r1⟩
  rw [h1] at h
  simp only at h
  split at h
  · injection h with e1 e2; subst e2; rename_i hne; exact absurd he hne
  · split at h
    · rename_i hz
      subst hz
      rcases h2 : nodeR bs r1 with ⟨n, r2⟩
      rw [h2] at h
      injection h with e1 e2; subst e1; subst e2
      obtain ⟨n1, n2⟩ := nodeR_rd h2 he
      obtain ⟨c1, _⟩ := countR_rd h1 n1.e0
      exact ⟨c1.app n1, n2⟩
    · rename_i hz
      split at h
      · injection h with e1 e2; subst e1; simp only at hk; omega
      · injection h with e1 e2; subst e1; simp only at hk; omega

/-- What is read, where all events are nodes. -/
theorem manyE_rd {bs : List UInt8} : ∀ {n : Nat} {r : RS} {L : List Ev} {r' : RS}, manyR (eventR bs) n r = (L, r') → r'.e = 0 → (∀ e ∈ L, e.kind = 0) → L.length = n ∧ Rd bs r ((L.map Ev.n).flatMap putEv) r' ∧ ∀ e ∈ L, e.n.sm
  | 0, r, L, r', h, he, hk => by
    simp only [manyR] at h
    injection h with h1 h2; subst h1; subst h2
    exact ⟨rfl, .nil he, by simp⟩
  | n + 1, r, L, r', h, he, hk => by
    simp only [manyR] at h
    split at h
    · injection h with h1 h2; subst h2; rename_i hne; exact absurd he hne
    · rcases hq : eventR bs r with ⟨x, r1⟩
      rw [hq] at h
      simp only at h
      rcases hm : manyR (eventR bs) n r1 with ⟨M, r2⟩
      rw [hm] at h
      injection h with h1 h2; subst h1; subst h2
      obtain ⟨k1, k2, k3⟩ := manyE_rd hm he (fun e h => hk e (List.mem_cons_of_mem _ h))
      obtain ⟨k4, k5⟩ := eventR_rd hq k2.e0 (hk x (by simp))
      exact ⟨by simp [k1], by rw [List.map_cons, List.flatMap_cons]; exact k4.app k2, by intro y hy; rcases List.mem_cons.1 hy with rfl | hy; exact k5; exact k3 y hy⟩

theorem proofR_rd {bs : List UInt8} {l : List Nd} (h : proofR bs = .ok l) : putEs l = bs ∧ (∀ n ∈ l, n.sm) ∧ l.length ≤ 1048576 := by
  unfold proofR at h
  split at h
  · cases h
  · rename_i es hu
    split at h
    · rename_i hall
      injection h with h; subst h
      have hlen := eventsR_len hu
      unfold eventsR at hu
      rcases hl : listR bs ⟨0, 0⟩ with ⟨L, r2⟩
      rw [hl] at hu
      simp only at hu
      split at hu
      · cases hu
      · rename_i he
        injection hu with hu; subst hu
        have hz : ∀ e ∈ L, e.kind = 0 := fun e he => by simpa using List.all_eq_true.1 hall e he
        have he0 : r2.e = 0 ∧ r2.at_ = bs.length := by
          simp only [endR] at he
          split at he
          · simp at he
          · rename_i hne
            have h1 : r2.e = 0 := by simpa using he
            exact ⟨h1, by by_cases h2 : r2.at_ = bs.length; exact h2; exact absurd ⟨h1, h2⟩ hne⟩
        unfold listR at hl
        rcases hc : countR bs 1048576 ⟨0, 0⟩ with ⟨n, r1⟩
        rw [hc] at hl
        simp only at hl
        obtain ⟨k1, k2, k3⟩ := manyE_rd hl he0.1 hz
        obtain ⟨k4, k5⟩ := countR_rd hc k2.e0
        have := (k4.app k2).dr
        rw [he0.2, List.drop_length, List.append_nil, List.drop_zero] at this
        refine ⟨?_, ?_, by simpa using hlen⟩
        · rw [putEs, List.length_map, k1, this]
        · intro n hn
          obtain ⟨e, he, rfl⟩ := List.mem_map.1 hn
          exact k3 e he
    · cases h

/-! ### What is put is read -/
def RS.good (r : RS) : Prop := r.e = 0 ∨ r.e = 7 ∨ r.e = 10
theorem countR_good {bs : List UInt8} {most : Nat} {r : RS} (h : r.good) : (countR bs most r).2.good := by
  unfold countR
  split
  · exact h
  · split
    · rename_i e hu; exact .inr (uintR_err hu)
    · split
      · exact .inl rfl
      · exact .inr (.inl rfl)
theorem numR_good {bs : List UInt8} {r : RS} (h : r.good) : (numR bs r).2.good := by
  unfold numR
  split
  · exact h
  · split
    · rename_i e hu; exact .inr (intR_err hu)
    · split
      · exact .inl rfl
      · exact .inr (.inl rfl)
theorem manyR_good {α : Type} {f : RS → α × RS} (hf : ∀ r, r.good → (f r).2.good) : ∀ {n : Nat} {r : RS}, r.good → (manyR f n r).2.good
  | 0, r, h => h
  | n + 1, r, h => by
    simp only [manyR]
    split
    · exact h
    · exact manyR_good hf (hf r h)
theorem termR_good {bs : List UInt8} : ∀ {g : Nat} {r : RS}, r.good → (termR bs g r).2.good
  | 0, r, h => by
    simp only [termR]
    split
    · exact h
    · split
      · rename_i e hu; exact .inr (intR_err hu)
      · exact .inr (.inl rfl)
  | g + 1, r, h => by
    simp only [termR]
    split
    · exact h
    · split
      · rename_i e hu; exact .inr (intR_err hu)
      · split
        · split
          · exact .inl rfl
          · exact manyR_good (fun r hr => termR_good hr) (countR_good (.inl rfl))
        · exact .inr (.inl rfl)
theorem litsR_good {bs : List UInt8} : ∀ {n : Nat} {r : RS}, r.good → (litsR bs n r).2.good
  | 0, r, h => h
  | n + 1, r, h => by
    have h3 : (termR bs 257 (termR bs 257 (countR bs 1 r).2).2).2.good := termR_good (termR_good (countR_good h))
    simp only [litsR]
    split
    · exact h3
    · exact litsR_good h3
theorem clauseR_good {bs : List UInt8} {a e : Nat} (h : clauseR bs a = .error e) : e = 7 ∨ e = 10 := by
  unfold clauseR at h
  split at h
  · rename_i he
    injection h with h; subst h
    have := litsR_good (bs := bs) (n := (countR bs 4096 ⟨a, 0⟩).1) (countR_good (bs := bs) (most := 4096) (r := ⟨a, 0⟩) (.inl rfl))
    rcases this with h1 | h1
    · exact absurd h1 he
    · exact h1
  · cases h
theorem nodeR_good {bs : List UInt8} {r : RS} (h : r.good) : (nodeR bs r).2.good := by
  have h4 : (numR bs (numR bs (numR bs (numR bs r).2).2).2).2.good := numR_good (numR_good (numR_good (numR_good h)))
  unfold nodeR
  split
  · exact h4
  · split
    · rename_i e hu; exact .inr (clauseR_good hu)
    · exact .inl rfl
theorem eventR_good {bs : List UInt8} {r : RS} (h : r.good) : (eventR bs r).2.good := by
  have h1 : (countR bs 7 r).2.good := countR_good h
  unfold eventR
  split
  · exact h1
  · split
    · exact nodeR_good h1
    · split
      · exact h1
      · exact numR_good h1
theorem proofR_err {bs : List UInt8} {e : Nat} (h : proofR bs = .error e) : e = 7 ∨ e = 10 := by
  unfold proofR at h
  split at h
  · rename_i e' hu
    injection h with h; subst h
    unfold eventsR at hu
    split at hu
    · rename_i he
      injection hu with hu; subst hu
      have hg : (listR bs ⟨0, 0⟩).2.good := manyR_good (fun r hr => eventR_good hr) (countR_good (.inl rfl))
      revert he
      simp only [endR]
      split
      · intro _; exact .inl rfl
      · intro he
        rcases hg with h1 | h1
        · exact absurd h1 he
        · exact h1
    · cases hu
  · split at h
    · cases h
    · injection h with h; omega
end Go.AW

/-
  What is put is read as it was.
-/
namespace Go.AW
open Go
set_option linter.unusedVariables false
set_option linter.unusedSimpArgs false

theorem countR_put {bs rest : List UInt8} {most n : Nat} {r : RS} (he : r.e = 0) (hn : n ≤ most) (hm : most < 18446744073709551616) (h : bs.drop r.at_ = putU n ++ rest) : countR bs most r = (n, ⟨r.at_ + (putU n).length, 0⟩) := by
  unfold countR
  rw [if_neg (by simpa using he), uintR_put (by omega) h]
  simp only [hn, if_true]
theorem numR_put {bs rest : List UInt8} {n : Int} {r : RS} (he : r.e = 0) (hn : smI n) (h : bs.drop r.at_ = putI n ++ rest) : numR bs r = (n, ⟨r.at_ + (putI n).length, 0⟩) := by
  obtain ⟨h1, h2⟩ := hn
  unfold numR
  rw [if_neg (by simpa using he), intR_put (by omega) (by omega) h]
  simp only [h1, h2, and_self, if_true]
theorem manyR_put {bs : List UInt8} {α : Type} {f : RS → α × RS} {enc : α → List UInt8} {g : α → α} : ∀ {L : List α} {r : RS} {rest : List UInt8}, (∀ x ∈ L, ∀ (r : RS) rest, r.e = 0 → bs.drop r.at_ = enc x ++ rest → f r = (g x, ⟨r.at_ + (enc x).length, 0⟩)) →
    r.e = 0 → bs.drop r.at_ = L.flatMap enc ++ rest → manyR f L.length r = (L.map g, ⟨r.at_ + (L.flatMap enc).length, 0⟩)
  | [], r, rest, hf, he, h => by
    obtain ⟨a, e⟩ := r
    simp only at he; subst he
    simp [manyR]
  | x :: L, r, rest, hf, he, h => by
    rw [List.flatMap_cons, List.append_assoc] at h
    have h1 := hf x (by simp) r _ he h
    have h2 := drop_more h
    simp only [List.length_cons, manyR]
    rw [if_neg (by simpa using he), h1]
    have h3 := manyR_put (L := L) (r := ⟨r.at_ + (enc x).length, 0⟩) (rest := rest) (fun y hy => hf y (by simp [hy])) rfl h2
    simp only [h3, List.map_cons, List.flatMap_cons, List.length_append] <;> simp only [Nat.add_assoc]

theorem termR_put {bs : List UInt8} : ∀ (g : Nat) (t : Tm) (d : Int), t.fine d → d + 1 ≤ g → ∀ (r : RS) (rest : List UInt8), r.e = 0 → bs.drop r.at_ = putT t ++ rest → termR bs g r = (t.canon, ⟨r.at_ + (putT t).length, 0⟩)
  | 0, .mk F L, d, hf, hg, r, rest, he, h => by
    have := hf.2.2.1
    omega
  | g + 1, .mk F L, d, hf, hg, r, rest, he, h => by
    obtain ⟨⟨hF1, hF2⟩, hL, hd, hfl⟩ := hf
    rw [putT, List.append_assoc] at h
    simp only [termR]
    rw [if_neg (by simpa using he), intR_put (by omega) (by omega) h]
    have h2 := drop_more h
    simp only [show -2147483648 ≤ F from by omega, show F ≤ 2147483647 from by omega, and_self, if_true]
    by_cases hneg : F < 0
    · simp only [hneg, if_true, Tm.canon, putT, List.append_nil]
    · simp only [hneg, if_false, List.append_assoc] at h2
      have h3 := drop_more h2
      rw [if_neg hneg, countR_put (r := ⟨r.at_ + (putI F).length, 0⟩) rfl (show L.length ≤ 4096 by omega) (by omega) h2]
      rw [putTL_map] at h3
      have h4 := manyR_put (bs := bs) (f := termR bs g) (enc := putT) (g := Tm.canon) (L := L) (r := ⟨r.at_ + (putI F).length + (putU L.length).length, 0⟩) (rest := rest)
        (fun t ht r rest he h => termR_put g t (d - 1) (fineL_iff.1 hfl t ht) (by push_cast at hg; omega) r rest he h) rfl h3
      simp only [h4, Tm.canon, hneg, if_false, putT, List.length_append, putTL_map, canonL_map] <;> simp only [Nat.add_assoc]

def Nd.fine (n : Nd) : Prop := smI n.id ∧ smI n.rule ∧ smI n.p ∧ smI n.q ∧ n.c.length ≤ 3 ∧ ∀ l ∈ n.c, l.fine

theorem litsR_put {bs : List UInt8} : ∀ {L : List Li} {r : RS} {rest : List UInt8}, (∀ l ∈ L, l.fine) → r.e = 0 → bs.drop r.at_ = L.flatMap putL ++ rest → litsR bs L.length r = (L.map Li.canon, ⟨r.at_ + (L.flatMap putL).length, 0⟩)
  | [], r, rest, hf, he, h => by
    obtain ⟨a, e⟩ := r
    simp only at he; subst he
    simp [litsR]
  | ⟨neg, a, b⟩ :: L, r, rest, hf, he, h => by
    obtain ⟨⟨ha, _⟩, hb, _⟩ := hf _ (List.mem_cons_self ..)
    simp only at ha hb
    rw [List.flatMap_cons, putL] at h
    simp only [List.append_assoc] at h
    have h1 := drop_more h
    have h2 := drop_more h1
    have h3 := drop_more h2
    have e1 := countR_put (r := r) he (show (if neg = true then 1 else 0) ≤ 1 by split <;> omega) (by omega) h
    have e2 := termR_put 257 a 8 ha (by omega) ⟨r.at_ + (putU (if neg = true then 1 else 0)).length, 0⟩ _ rfl h1
    have e3 := termR_put 257 b 8 hb (by omega) ⟨r.at_ + (putU (if neg = true then 1 else 0)).length + (putT a).length, 0⟩ _ rfl h2
    have e4 := litsR_put (bs := bs) (L := L) (r := ⟨r.at_ + (putU (if neg = true then 1 else 0)).length + (putT a).length + (putT b).length, 0⟩) (rest := rest) (fun l hl => hf l (by simp [hl])) rfl h3
    have e5 : (((if neg = true then 1 else 0 : Nat) : Int) == 1) = neg := by cases neg <;> rfl
    simp only [List.length_cons, litsR, e1, e2, e3, e4, ne_eq, not_true_eq_false, if_false, e5, List.map_cons, Li.canon, List.flatMap_cons, List.length_append, putL] <;> simp only [Nat.add_assoc]
theorem clauseR_put {bs rest : List UInt8} {a : Nat} {c : List Li} (hf : ∀ l ∈ c, l.fine) (hl : c.length ≤ 3) (h : bs.drop a = putC c ++ rest) : clauseR bs a = .ok (c.map Li.canon, a + (putC c).length) := by
  rw [putC, List.append_assoc] at h
  have h1 := drop_more h
  have e1 := countR_put (bs := bs) (most := 4096) (r := ⟨a, 0⟩) rfl (show c.length ≤ 4096 by omega) (by omega) h
  have e2 := litsR_put (bs := bs) (L := c) (r := ⟨a + (putU c.length).length, 0⟩) hf rfl h1
  simp only [clauseR, e1, e2, ne_eq, not_true_eq_false, if_false, putC, List.length_append] <;> simp only [Nat.add_assoc]
theorem nodeR_put {bs rest : List UInt8} {r : RS} {n : Nd} (hf : n.fine) (he : r.e = 0) (h : bs.drop r.at_ = putN n ++ rest) : nodeR bs r = (n.canon, ⟨r.at_ + (putN n).length, 0⟩) := by
  obtain ⟨i, ru, p, q, c⟩ := n
  obtain ⟨f1, f2, f3, f4, f5, f6⟩ := hf
  simp only at f1 f2 f3 f4 f5 f6
  simp only [putN, List.append_assoc] at h
  have h1 := drop_more h
  have h2 := drop_more h1
  have h3 := drop_more h2
  have h4 := drop_more h3
  have e1 := numR_put (r := r) he f1 h
  have e2 := numR_put (bs := bs) (r := ⟨r.at_ + (putI i).length, 0⟩) rfl f2 h1
  have e3 := numR_put (bs := bs) (r := ⟨r.at_ + (putI i).length + (putI ru).length, 0⟩) rfl f3 h2
  have e4 := numR_put (bs := bs) (r := ⟨r.at_ + (putI i).length + (putI ru).length + (putI p).length, 0⟩) rfl f4 h3
  have e5 := clauseR_put f6 f5 h4
  simp only [nodeR, e1, e2, e3, e4, e5, ne_eq, not_true_eq_false, if_false, Nd.canon, putN, List.length_append] <;> simp only [Nat.add_assoc]
theorem eventR_put {bs rest : List UInt8} {r : RS} {n : Nd} (hf : n.fine) (he : r.e = 0) (h : bs.drop r.at_ = putEv n ++ rest) : eventR bs r = (⟨0, 0, n.canon⟩, ⟨r.at_ + (putEv n).length, 0⟩) := by
  rw [putEv, List.append_assoc] at h
  have h1 := drop_more h
  have e1 := countR_put (r := r) (most := 7) he (show 0 ≤ 7 by omega) (by omega) h
  have e2 := nodeR_put (bs := bs) (r := ⟨r.at_ + (putU 0).length, 0⟩) hf rfl h1
  simp only [eventR, e1, e2, ne_eq, not_true_eq_false, if_false, if_true, putEv, List.length_append] <;> simp only [Nat.add_assoc]

theorem manyE_put {bs : List UInt8} : ∀ {L : List Nd} {r : RS} {rest : List UInt8}, (∀ n ∈ L, n.fine) → r.e = 0 → bs.drop r.at_ = L.flatMap putEv ++ rest → manyR (eventR bs) L.length r = (L.map (fun n => ⟨0, 0, n.canon⟩), ⟨r.at_ + (L.flatMap putEv).length, 0⟩)
  | [], r, rest, hf, he, h => by
    obtain ⟨a, e⟩ := r
    simp only at he; subst he
    simp [manyR]
  | x :: L, r, rest, hf, he, h => by
    rw [List.flatMap_cons, List.append_assoc] at h
    have h1 := eventR_put (hf x (by simp)) he h
    have h2 := drop_more h
    simp only [List.length_cons, manyR]
    rw [if_neg (by simpa using he), h1]
    have h3 := manyE_put (L := L) (r := ⟨r.at_ + (putEv x).length, 0⟩) (rest := rest) (fun y hy => hf y (by simp [hy])) rfl h2
    simp only [h3, List.map_cons, List.flatMap_cons, List.length_append] <;> simp only [Nat.add_assoc]

theorem proofR_put {c : List Nd} (hf : ∀ n ∈ c, n.fine) (hl : c.length ≤ 60) : proofR (putEs c) = .ok (c.map Nd.canon) := by
  have h : (putEs c).drop 0 = putU c.length ++ (c.flatMap putEv ++ []) := by rw [List.drop_zero, putEs, List.append_nil]
  have h1 := drop_more h
  have e1 := countR_put (bs := putEs c) (r := ⟨0, 0⟩) (most := 1048576) rfl (show c.length ≤ 1048576 by omega) (by omega) h
  have e2 := manyE_put (bs := putEs c) (L := c) (r := ⟨0 + (putU c.length).length, 0⟩) hf rfl h1
  have e3 : listR (putEs c) ⟨0, 0⟩ = (c.map (fun n => ⟨0, 0, n.canon⟩), ⟨(putEs c).length, 0⟩) := by
    simp only [listR, e1, e2]
    rw [show (putEs c).length = (putU c.length).length + (c.flatMap putEv).length from by rw [putEs, List.length_append], Nat.zero_add]
  have e4 : eventsR (putEs c) = .ok (c.map (fun n => ⟨0, 0, n.canon⟩)) := by
    simp only [eventsR, e3, endR, ne_eq, not_true_eq_false, and_false, if_false]
  simp only [proofR, e4]
  rw [if_pos (List.all_eq_true.2 (by intro e he; obtain ⟨n, _, rfl⟩ := List.mem_map.1 he; rfl))]
  simp only [List.map_map]; rfl

/-! ### How long bytes are -/
theorem fine_sm : ∀ {t : Tm} {d : Int}, t.fine d → t.sm
  | .mk F L, d, ⟨⟨h1, h2⟩, h3, h4, h5⟩ => ⟨by omega, by omega, smL_iff.2 fun t ht => fine_sm (fineL_iff.1 h5 t ht)⟩
termination_by t => t
theorem putI_len {n : Int} (h : smI n) : (putI n).length ≤ 10 := by
  obtain ⟨h1, h2⟩ := h
  exact putU_len10 (zig_lt (by omega) (by omega))
mutual
theorem putT_len : ∀ {t : Tm}, t.sm → (putT t).length ≤ 20 * t.size
  | .mk F L, h => by
    obtain ⟨h1, h2, h3⟩ := h
    have k1 := putI_len (n := F) h1
    have k2 := putU_len10 (n := L.length) (by omega)
    have k3 := putTL_len h3
    simp only [putT, Tm.size, List.length_append]
    split
    · simp only [List.length_nil]; omega
    · simp only [List.length_append]; omega
theorem putTL_len : ∀ {L : List Tm}, Tm.smL L → (putTL L).length ≤ 20 * Tm.sizeL L
  | [], _ => by simp [putTL]
  | t :: r, h => by
    have k1 := putT_len h.1
    have k2 := putTL_len h.2
    simp only [putTL, Tm.sizeL, List.length_append]; omega
end
theorem flat_len_le {α : Type} {f : α → List UInt8} {b : Nat} : ∀ {L : List α}, (∀ x ∈ L, (f x).length ≤ b) → (L.flatMap f).length ≤ b * L.length
  | [], _ => by simp
  | x :: L, h => by
    have k1 := h x (by simp)
    have k2 := flat_len_le (L := L) (fun y hy => h y (by simp [hy]))
    simp only [List.flatMap_cons, List.length_append, List.length_cons, Nat.mul_add]; omega
theorem Nd.fine.sm {n : Nd} (h : n.fine) : n.sm := ⟨h.1, h.2.1, h.2.2.1, h.2.2.2.1, fun l hl => ⟨fine_sm (h.2.2.2.2.2 l hl).1.1, fine_sm (h.2.2.2.2.2 l hl).2.1⟩⟩
theorem putEs_len {c : List Nd} (hf : ∀ n ∈ c, n.fine) (hl : c.length ≤ 60) : (putEs c).length ≤ 200000 := by
  have hL : ∀ l : Li, l.fine → (putL l).length ≤ 400 := by
    rintro ⟨neg, a, b⟩ ⟨⟨ha, sa⟩, hb, sb⟩
    simp only at ha sa hb sb
    have k1 := putT_len (fine_sm ha)
    have k2 := putT_len (fine_sm hb)
    have k3 := putU_len10 (n := if neg = true then 1 else 0) (by split <;> omega)
    simp only [putL, List.length_append]; omega
  have hE : ∀ n ∈ c, (putEv n).length ≤ 2000 := by
    intro n hn
    obtain ⟨h1, h2, h3, h4, h5, h6⟩ := hf n hn
    have k0 := putU_len10 (n := 0) (by omega)
    have k1 := putI_len h1
    have k2 := putI_len h2
    have k3 := putI_len h3
    have k4 := putI_len h4
    have k5 := putU_len10 (n := n.c.length) (by omega)
    have k6 := flat_len_le (f := putL) (b := 400) (L := n.c) (fun l hl => hL l (h6 l hl))
    simp only [putEv, putN, putC, List.length_append]; omega
  have k1 := flat_len_le (f := putEv) (b := 2000) (L := c) hE
  have k2 := putU_len10 (n := c.length) (by omega)
  simp only [putEs, List.length_append]; omega
end Go.AW
