/-
  The table of functions.
-/
import Derived.Test.YtkpnemmniepchaaGreatW7
import Derived.KernelRfl
import Derived.Lib.Bytealg
import Derived.Test.YtkpnemmniepchaaGreatProg
/-
  The table of the program.
-/
namespace Go.AW
open Go Go.RowKit Go.Proofs
set_option linter.unusedVariables false
set_option maxRecDepth 100000

def orcs : Nat → List AV → List AO → Option (List Res)
  | 171, [.sc (.string s), .sc (.int .u8 c)], st => some [(.sc (.int .i64 (Lib.indexByte s.data.toList c.toNat.toUInt8)), st, noLo)]
  | _, _, _ => none
noncomputable def tabFn (f : Nat) : Option (Nat × AC × List RV) := match Tryz.prog.funcs[f]? with
  | none => none
  | some fn => match fn.body with
    | none => none
    | some cd => match compR Tryz.prog fn.results.toList with
      | none => none
      | some rv => some (fn.ntmps, comp Tryz.prog fn.ntmps cd, rv)
noncomputable def tab : Tab := { fn := tabFn, orc := orcs, keep := fun f => [50, 51, 96, 97, 106, 150, 151, 154, 156, 228, 244, 252, 262, 265, 270].contains f, body := fun f => match Tryz.prog.funcs[f]? with
  | none => false
  | some fn => fn.body.isSome }

theorem names_ok : (Tryz.prog.funcs.toList.all fun fn => !(fn.name == "runtime.NumGoroutine")) = true := by kernel_rfl
theorem name_ok {f : Nat} {fn : Func} (h : Tryz.prog.funcs[f]? = some fn) : (fn.name == "runtime.NumGoroutine") = false := by
  have := List.all_eq_true.1 names_ok fn (Array.mem_toList_iff.2 (Array.mem_of_getElem? h))
  simpa using this

theorem indexByte_le (l : List UInt8) (c : UInt8) : Lib.indexByte l c ≤ l.length := by
  induction l with
  | nil => simp [Lib.indexByte]
  | cons b l ih =>
    simp only [Lib.indexByte, List.length_cons]
    split
    · omega
    · split <;> omega

theorem call171 {s : ByteArray} {c : Int} {st : List AO} : ACall Tryz.prog 171 [.sc (.string s), .sc (.int .u8 c)] st (fun x s' => x = .sc (.int .i64 (Lib.indexByte s.data.toList c.toNat.toUInt8)) ∧ s' = st) := by
  intro w ρ D vs hW hV
  obtain ⟨v1, v2, rfl⟩ : ∃ v1 v2, vs = #[v1, v2] := by
    obtain ⟨l⟩ := vs
    have := hV.1
    match l, this with
    | [a, b], _ => exact ⟨a, b, rfl⟩
  have h1 := hV.2 0 _ _ rfl rfl
  have h2 := hV.2 1 _ _ rfl rfl
  cases h1 with | sc p1 => ?_
  cases h2
  have hp : plainV (.int .i64 (Lib.indexByte s.data.toList c.toNat.toUInt8)) = true := by
    have k1 := Lib.indexByte_ge s.data.toList c.toNat.toUInt8
    have k2 := indexByte_le s.data.toList c.toNat.toUInt8
    have k3 : s.data.toList.length ≤ 140737488355328 := by simpa [plainV] using p1
    have e1 : IntKind.min .i64 = -9223372036854775808 := rfl
    have e2 : IntKind.max .i64 = 9223372036854775807 := rfl
    simp only [plainV, Bool.and_eq_true, decide_eq_true_eq, e1, e2]
    omega
  refine .inr ⟨.int .i64 (Lib.indexByte s.data.toList c.toNat.toUInt8), w, ?_, _, _, st, ρ, D, rfl, hW, .sc hp, .refl _, rfl, rfl⟩
  rw [run_callFunc_extern Tryz.func171 (by kernel_rfl) (by kernel_rfl) (by kernel_rfl) (e := Extern.BytealgIndexByte.indexByte) (by kernel_rfl), Lib.run_indexByteString]
  rfl

theorem tabOk : TabOk Tryz.prog tab := by
  refine TabOk.mk (fun f N ac rv h => ?_) (fun f xs st L h hL => ?_) (fun f h vs w => ?_)
  · change tabFn f = _ at h
    unfold tabFn at h
    split at h
    · cases h
    · rename_i fn hf
      split at h
      · cases h
      · rename_i cd hc
        split at h
        · cases h
        · rename_i rv' hr
          injection h with h; injection h with h1 h2; injection h2 with h2 h3
          subst h1; subst h2; subst h3
          exact ⟨fn, cd, hf, hc, name_ok hf, rfl, rfl, hr⟩
  · change orcs f xs st = _ at h
    unfold orcs at h
    split at h
    · injection h with h; subst h
      exact ⟨fun r hr => by simp at hr; subst hr; exact .refl _, call171.mono (fun x s ⟨e1, e2⟩ => ⟨_, List.mem_singleton.2 rfl, e1, e2⟩)⟩
    · cases h
  · change (match Tryz.prog.funcs[f]? with
      | none => false
      | some fn => fn.body.isSome) = true at h
    split at h
    · cases h
    · rename_i fn hf
      exact run_callFunc hf h (name_ok hf)
end Go.AW
