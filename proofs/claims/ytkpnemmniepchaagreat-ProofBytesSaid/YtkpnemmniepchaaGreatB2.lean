/-
  The function ProofBytes of soriteslaw24 returns true at every input and leaves its arguments as they were; there is no further condition.
-/
import Derived.Test.YtkpnemmniepchaaGreatRows
import Derived.Test.YtkpnemmniepchaaGreatB1
/-
  The statement on the proof's bytes, from the walk on abstract values.
-/
namespace Go.Proofs.YtkpnemmniepchaaGreat
open Go Go.ChangeShapes Go.WideShapes Go.ChangeAt Go.RowKit Go.AW

theorem Tryz.own : ownKnob Tryz.prog.godebug = none := by kernel_rfl
theorem Tryz.laidOut : laidOutB Tryz.prog = true := by kernel_rfl

theorem walk4 {W : World} {es : List Ev} {bs : List UInt8} {a b : Value} (ha : VR (cW W) (.sl false (es.map evA)) a) (hb : VR (cW W) (bA bs) b) :
    Calls Tryz.prog 4 #[a, b] W (fun e W' => e = .returned (.bool true) ∧ Below W.heap.size W W') := by
  have hv : VRs (cW W) [.sl false (es.map evA), bA bs] #[a, b] := by
    refine ⟨rfl, fun i x v h1 h2 => ?_⟩
    match i with
    | 0 => simp at h1 h2; subst h1; subst h2; exact ha
    | 1 => simp at h1 h2; subst h1; subst h2; exact hb
    | i + 2 => simp at h1
  have key : ∀ e W', Post (cW W) (fun x s => x = .sc (.bool true) ∧ s = []) e W' → e = .returned (.bool true) ∧ Below W.heap.size W W' := by
    rintro e W' ⟨v, x, st', ρ', D', rfl, _, h2, h3, rfl, rfl⟩
    cases h2
    exact ⟨rfl, h3.os, h3.tape, h3.output, h3.size, fun k hk => h3.frame k hk (fun i ⟨o, v, h, _⟩ => by simp [cW] at h)⟩
  rcases call4 (st := []) (es := es) (b := bs) W [] (cW W).D #[a, b] (cW_wr W) hv with ⟨_, h⟩ | ⟨v, w', h, _⟩
  · exact h.mono fun e W' hp => key e W' hp
  · rw [run_callFunc Tryz.func4 (by kernel_rfl) (name_ok Tryz.func4)] at h
    cases h

set_option maxRecDepth 100000 in
theorem proofBytes_lifted (os : Os) (started : os.Started) (H : Type) (enc : TypeId × Value → H) :
    ReturnsInHanded {} Tryz.checked os 4 .any (Rows.proofBytesSpec.pre6 enc Tryz.prog Tryz.f4 Rows.proofBytesRow.domain false) (Rows.proofBytesSpec.post enc Tryz.prog Tryz.f4 false true false false) := by
  refine returnsInHanded_of_change_sized (C := Tryz.checked) Tryz.own started (by kernel_rfl) Tryz.func4
    (ChangeSpec.witness6 (enc := enc) (C := Tryz.checked) false ⟨#[], #[.slice none 0 0, .slice none 0 0], []⟩ 8 (by kernel_rfl) (by kernel_rfl) (by kernel_rfl) (by kernel_rfl)) ?_
  intro W base args ds gs before hval0 hW hcnd hwt0 _
  have hval : ∀ (j : Nat) t v, Tryz.f4.params[j]? = some t → args[j]? = some v → Value.okWide Tryz.prog W .any base t v := hval0
  have hW' := hW
  obtain ⟨p, q, hA0, hV, rfl, hfz, hnd⟩ := hW
  have hA : DataW.TrodAll enc Tryz.prog W 0 (fun _ => true) true Tryz.f4.params.toList args.toList ds p := hA0
  have hwt : (DataW.weightsEach Tryz.prog (Tryz.f4.params.toList ++ Rows.proofBytesSpec.plain.varTypes Tryz.prog) (ds ++ gs)).all (· ≤ reachBytes) = true := hwt0
  have hlt := hW'.lt
  rw [Tryz.params4] at hA hval hwt
  obtain ⟨v0, v1, d0, d1, p0, p1, rfl, rfl, rfl, h0, h1⟩ := trodAll_two hA
  obtain ⟨rfl, rfl⟩ := trodVars_none hV
  clear hA0 hval0 hwt0
  simp only [List.append_nil] at hW' hlt
  obtain ⟨w0, hwt⟩ := each_cons (t := 45) (d := d0) (ds := [d1] ++ []) (ts := 46 :: Rows.proofBytesSpec.plain.varTypes Tryz.prog) hwt
  obtain ⟨w1, _⟩ := each_cons (t := 46) (d := d1) (ds := []) (ts := Rows.proofBytesSpec.plain.varTypes Tryz.prog) hwt
  obtain ⟨a0, n0, c0, rfl⟩ := okWide_slice Tryz.underlying45 (hval 0 45 v0 rfl rfl)
  obtain ⟨a1, n1, c1, rfl⟩ := okWide_slice Tryz.underlying46 (hval 1 46 v1 rfl rfl)
  have h0' := h0
  have h1' := h1
  obtain ⟨m0, k0⟩ := h0'
  obtain ⟨m1, k1⟩ := h1'
  obtain ⟨es, u0, e0, r0⟩ := evs_vr k0 w0
  obtain ⟨bs, u1, e1, r1⟩ := bytes_vr k1 w1
  injection e0 with e0; subst e0
  injection e1 with e1; subst e1
  refine (walk4 r0 r1).mono fun e W' hp => ?_
  obtain ⟨he, hb⟩ := hp
  subst he
  refine ⟨_, rfl, [d0, d1], [], p0 ++ p1, [], p0 ++ p1, [], hW', ?_, ?_, rfl, hb.frame _, (fun h => by cases h)⟩
  · exact trodAll_mk1 (shut_bool Tryz.underlying4 true)
  · exact trodAll_mk2 (Below.trod Tryz.laidOut (by kernel_rfl) (of_decide_eq_true (by kernel_rfl)) h0 hb (fun x hx => hlt x (by simp [hx])))
      (Below.trod Tryz.laidOut (by kernel_rfl) (of_decide_eq_true (by kernel_rfl)) h1 hb (fun x hx => hlt x (by simp [hx])))

theorem proofBytes_holds : Rows.ProofBytesSaid :=
  OpenClaim.holds_of_wide 4 Tryz.f4 rfl rfl rfl rfl rfl rfl rfl ⟨rfl, rfl, rfl, rfl, rfl⟩ rfl rfl rfl rfl rfl (by kernel_rfl) Tryz.func4 (by kernel_rfl)
    (of_decide_eq_true (by kernel_rfl)) (by unfold Func.isWrapper; rw [if_neg (by decide +kernel)]; exact ⟨rfl, rfl⟩)
    (fun os started H enc _ => proofBytes_lifted os started H enc)

end Go.Proofs.YtkpnemmniepchaaGreat
