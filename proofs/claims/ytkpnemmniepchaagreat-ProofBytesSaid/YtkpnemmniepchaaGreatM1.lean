/-
  Calls that were evaluated.
-/
import Derived.Test.YtkpnemmniepchaaGreatL1
/-
  Calls of the program, reckoned by the evaluator, part 0.
-/
namespace Go.AW
open Go Go.RowKit Go.Proofs
set_option linter.unusedVariables false
set_option maxRecDepth 100000
def e0 : Nat × List AV × AV := (37, [.sc (.string ⟨#[112, 46, 32, 126, 112, 46]⟩)], .tup [.sl false [.agg [.sc (.int .u8 97), .sc (.string ⟨#[112]⟩)], .agg [.sc (.int .u8 46), .sc (.string ⟨#[]⟩)], .agg [.sc (.int .u8 126), .sc (.string ⟨#[]⟩)], .agg [.sc (.int .u8 97), .sc (.string ⟨#[112]⟩)], .agg [.sc (.int .u8 46), .sc (.string ⟨#[]⟩)], .agg [.sc (.int .u8 0), .sc (.string ⟨#[]⟩)]], .sc (.bool true)])
theorem q0 : checkM (tabM tab []) 3000 e0 = true := by kernel_rfl
theorem k0 : MemoOk Tryz.prog [e0] := checkM_ok (tabOk.memo .nil) q0
def e1 : Nat × List AV × AV := (18, [.sc (.string ⟨#[112, 46, 32, 126, 112, 46]⟩)], .tup [.agg [.sl false [.sc (.string ⟨#[36, 116, 114, 117, 101]⟩), .sc (.string ⟨#[112]⟩)], .sl false [.sc (.int .i64 0), .sc (.int .i64 0)], .sl false [.sc (.bool true), .sc (.bool true)]], .sl false [.sl false [.agg [.sc (.bool false), .sc (.int .i64 1), .sl false [], .sc (.int .i64 0), .sl false []]], .sl false [.agg [.sc (.bool true), .sc (.int .i64 1), .sl false [], .sc (.int .i64 0), .sl false []]]], .sc (.int .u8 0)])
theorem q1 : checkM (tabM tab [e0]) 3000 e1 = true := by kernel_rfl
theorem k1 : MemoOk Tryz.prog [e1] := checkM_ok (tabOk.memo (.cons k0 .nil)) q1
end Go.AW

/-
  Calls of the program, reckoned by the evaluator, part 1.
-/
namespace Go.AW
open Go Go.RowKit Go.Proofs
set_option linter.unusedVariables false
set_option maxRecDepth 100000
def e2 : Nat × List AV × AV := (131, [.agg [.sc (.int .i64 1), .sl true []], .agg [.sc (.int .i64 0), .sl true []]], .sc (.int .i64 1))
theorem q2 : checkM (tabM tab []) 3000 e2 = true := by kernel_rfl
theorem k2 : MemoOk Tryz.prog [e2] := checkM_ok (tabOk.memo .nil) q2
def e3 : Nat × List AV × AV := (125, [.agg [.sc (.bool false), .sc (.int .i64 1), .sl false [], .sc (.int .i64 0), .sl false []]], .agg [.sc (.bool false), .sc (.int .i64 1), .sl false [], .sc (.int .i64 0), .sl false [], .sc (.int .i64 1), .sl true [], .sc (.int .i64 0), .sl true []])
theorem q3 : checkM (tabM tab [e2]) 3000 e3 = true := by kernel_rfl
theorem k3 : MemoOk Tryz.prog [e3] := checkM_ok (tabOk.memo (.cons k2 .nil)) q3
def e4 : Nat × List AV × AV := (82, [.sl false [.agg [.sc (.bool false), .sc (.int .i64 1), .sl false [], .sc (.int .i64 0), .sl false []]]], .sl false [.agg [.sc (.bool false), .sc (.int .i64 1), .sl false [], .sc (.int .i64 0), .sl false []]])
theorem q4 : checkM (tabM tab [e3]) 3000 e4 = true := by kernel_rfl
theorem k4 : MemoOk Tryz.prog [e4] := checkM_ok (tabOk.memo (.cons k3 .nil)) q4
def e5 : Nat × List AV × AV := (23, [.agg [.sc (.int .i64 0), .sc (.int .i64 0), .sc (.int .i64 0), .sc (.int .i64 0), .sc (.bool false), .sl true [], .sl true [], .sl true []], .sl true [.agg [.sc (.int .i64 0), .sc (.int .i64 0), .sc (.int .i64 1), .sc (.int .i64 0), .sc (.int .i64 0), .sc (.int .i64 0), .sl false [.agg [.sc (.bool false), .sc (.int .i64 1), .sl false [], .sc (.int .i64 0), .sl false []]]]]], .tup [.agg [.sc (.int .i64 0), .sc (.int .i64 0), .sc (.int .i64 0), .sc (.int .i64 0), .sc (.bool false), .sl false [.agg [.sc (.int .i64 1), .sc (.int .i64 0), .sc (.int .i64 0), .sc (.int .i64 0), .sl false [.agg [.sc (.bool false), .sc (.int .i64 1), .sl false [], .sc (.int .i64 0), .sl false []]]]], .sl true [], .sl true []], .sc (.int .u8 0)])
theorem q5 : checkM (tabM tab []) 3000 e5 = true := by kernel_rfl
theorem k5 : MemoOk Tryz.prog [e5] := checkM_ok (tabOk.memo .nil) q5
def e6 : Nat × List AV × AV := (131, [.agg [.sc (.int .i64 1), .sl false []], .agg [.sc (.int .i64 0), .sl false []]], .sc (.int .i64 1))
theorem q6 : checkM (tabM tab []) 3000 e6 = true := by kernel_rfl
theorem k6 : MemoOk Tryz.prog [e6] := checkM_ok (tabOk.memo .nil) q6
def e7 : Nat × List AV × AV := (93, [.sl false [.agg [.sc (.bool false), .sc (.int .i64 1), .sl false [], .sc (.int .i64 0), .sl false []]]], .sc (.bool false))
theorem q7 : checkM (tabM tab [e6]) 3000 e7 = true := by kernel_rfl
theorem k7 : MemoOk Tryz.prog [e7] := checkM_ok (tabOk.memo (.cons k6 .nil)) q7
def e8 : Nat × List AV × AV := (23, [.agg [.sc (.int .i64 0), .sc (.int .i64 0), .sc (.int .i64 0), .sc (.int .i64 0), .sc (.bool false), .sl false [.agg [.sc (.int .i64 1), .sc (.int .i64 0), .sc (.int .i64 0), .sc (.int .i64 0), .sl false [.agg [.sc (.bool false), .sc (.int .i64 1), .sl false [], .sc (.int .i64 0), .sl false []]]]], .sl true [], .sl true []], .sl true [.agg [.sc (.int .i64 1), .sc (.int .i64 1), .sc (.int .i64 0), .sc (.int .i64 0), .sc (.int .i64 0), .sc (.int .i64 0), .sl false []]]], .tup [.agg [.sc (.int .i64 0), .sc (.int .i64 0), .sc (.int .i64 0), .sc (.int .i64 0), .sc (.bool false), .sl false [.agg [.sc (.int .i64 1), .sc (.int .i64 0), .sc (.int .i64 0), .sc (.int .i64 0), .sl false [.agg [.sc (.bool false), .sc (.int .i64 1), .sl false [], .sc (.int .i64 0), .sl false []]]]], .sl true [], .sl false [.sc (.int .i64 1)]], .sc (.int .u8 0)])
theorem q8 : checkM (tabM tab []) 3000 e8 = true := by kernel_rfl
theorem k8 : MemoOk Tryz.prog [e8] := checkM_ok (tabOk.memo .nil) q8
def e9 : Nat × List AV × AV := (125, [.agg [.sc (.bool true), .sc (.int .i64 1), .sl false [], .sc (.int .i64 0), .sl false []]], .agg [.sc (.bool true), .sc (.int .i64 1), .sl false [], .sc (.int .i64 0), .sl false [], .sc (.int .i64 1), .sl true [], .sc (.int .i64 0), .sl true []])
theorem q9 : checkM (tabM tab [e2]) 3000 e9 = true := by kernel_rfl
theorem k9 : MemoOk Tryz.prog [e9] := checkM_ok (tabOk.memo (.cons k2 .nil)) q9
def e10 : Nat × List AV × AV := (82, [.sl false [.agg [.sc (.bool true), .sc (.int .i64 1), .sl false [], .sc (.int .i64 0), .sl false []]]], .sl false [.agg [.sc (.bool true), .sc (.int .i64 1), .sl false [], .sc (.int .i64 0), .sl false []]])
theorem q10 : checkM (tabM tab [e9]) 3000 e10 = true := by kernel_rfl
theorem k10 : MemoOk Tryz.prog [e10] := checkM_ok (tabOk.memo (.cons k9 .nil)) q10
def e11 : Nat × List AV × AV := (23, [.agg [.sc (.int .i64 0), .sc (.int .i64 0), .sc (.int .i64 0), .sc (.int .i64 0), .sc (.bool false), .sl false [.agg [.sc (.int .i64 1), .sc (.int .i64 0), .sc (.int .i64 0), .sc (.int .i64 0), .sl false [.agg [.sc (.bool false), .sc (.int .i64 1), .sl false [], .sc (.int .i64 0), .sl false []]]]], .sl true [], .sl false [.sc (.int .i64 1)]], .sl true [.agg [.sc (.int .i64 0), .sc (.int .i64 0), .sc (.int .i64 2), .sc (.int .i64 0), .sc (.int .i64 0), .sc (.int .i64 0), .sl false [.agg [.sc (.bool true), .sc (.int .i64 1), .sl false [], .sc (.int .i64 0), .sl false []]]]]], .tup [.agg [.sc (.int .i64 0), .sc (.int .i64 0), .sc (.int .i64 0), .sc (.int .i64 0), .sc (.bool false), .sl false [.agg [.sc (.int .i64 1), .sc (.int .i64 0), .sc (.int .i64 0), .sc (.int .i64 0), .sl false [.agg [.sc (.bool false), .sc (.int .i64 1), .sl false [], .sc (.int .i64 0), .sl false []]]], .agg [.sc (.int .i64 2), .sc (.int .i64 0), .sc (.int .i64 0), .sc (.int .i64 0), .sl false [.agg [.sc (.bool true), .sc (.int .i64 1), .sl false [], .sc (.int .i64 0), .sl false []]]]], .sl true [], .sl false [.sc (.int .i64 1)]], .sc (.int .u8 0)])
theorem q11 : checkM (tabM tab []) 3000 e11 = true := by kernel_rfl
theorem k11 : MemoOk Tryz.prog [e11] := checkM_ok (tabOk.memo .nil) q11
def e12 : Nat × List AV × AV := (23, [.agg [.sc (.int .i64 0), .sc (.int .i64 0), .sc (.int .i64 0), .sc (.int .i64 0), .sc (.bool false), .sl false [.agg [.sc (.int .i64 1), .sc (.int .i64 0), .sc (.int .i64 0), .sc (.int .i64 0), .sl false [.agg [.sc (.bool false), .sc (.int .i64 1), .sl false [], .sc (.int .i64 0), .sl false []]]], .agg [.sc (.int .i64 2), .sc (.int .i64 0), .sc (.int .i64 0), .sc (.int .i64 0), .sl false [.agg [.sc (.bool true), .sc (.int .i64 1), .sl false [], .sc (.int .i64 0), .sl false []]]]], .sl true [], .sl false [.sc (.int .i64 1)]], .sl true [.agg [.sc (.int .i64 1), .sc (.int .i64 2), .sc (.int .i64 0), .sc (.int .i64 0), .sc (.int .i64 0), .sc (.int .i64 0), .sl false []]]], .tup [.agg [.sc (.int .i64 0), .sc (.int .i64 0), .sc (.int .i64 0), .sc (.int .i64 0), .sc (.bool false), .sl false [.agg [.sc (.int .i64 1), .sc (.int .i64 0), .sc (.int .i64 0), .sc (.int .i64 0), .sl false [.agg [.sc (.bool false), .sc (.int .i64 1), .sl false [], .sc (.int .i64 0), .sl false []]]], .agg [.sc (.int .i64 2), .sc (.int .i64 0), .sc (.int .i64 0), .sc (.int .i64 0), .sl false [.agg [.sc (.bool true), .sc (.int .i64 1), .sl false [], .sc (.int .i64 0), .sl false []]]]], .sl true [], .sl false [.sc (.int .i64 1), .sc (.int .i64 2)]], .sc (.int .u8 0)])
theorem q12 : checkM (tabM tab []) 3000 e12 = true := by kernel_rfl
theorem k12 : MemoOk Tryz.prog [e12] := checkM_ok (tabOk.memo .nil) q12
end Go.AW

/-
  Calls of the program, reckoned by the evaluator, part 2.
-/
namespace Go.AW
open Go Go.RowKit Go.Proofs
set_option linter.unusedVariables false
set_option maxRecDepth 100000
def e13 : Nat × List AV × AV := (49, [.sl false [.sl false [.agg [.sc (.bool false), .sc (.int .i64 1), .sl false [], .sc (.int .i64 0), .sl false []]], .sl false [.agg [.sc (.bool true), .sc (.int .i64 1), .sl false [], .sc (.int .i64 0), .sl false []]]]], .sl false [.agg [.sc (.int .i64 0), .sc (.int .i64 0), .sc (.int .i64 1), .sc (.int .i64 0), .sc (.int .i64 0), .sc (.int .i64 0), .sl false [.agg [.sc (.bool false), .sc (.int .i64 1), .sl false [], .sc (.int .i64 0), .sl false []]]], .agg [.sc (.int .i64 1), .sc (.int .i64 1), .sc (.int .i64 0), .sc (.int .i64 0), .sc (.int .i64 0), .sc (.int .i64 0), .sl false []], .agg [.sc (.int .i64 0), .sc (.int .i64 0), .sc (.int .i64 2), .sc (.int .i64 0), .sc (.int .i64 0), .sc (.int .i64 0), .sl false [.agg [.sc (.bool true), .sc (.int .i64 1), .sl false [], .sc (.int .i64 0), .sl false []]]], .agg [.sc (.int .i64 1), .sc (.int .i64 2), .sc (.int .i64 0), .sc (.int .i64 0), .sc (.int .i64 0), .sc (.int .i64 0), .sl false []]])
theorem q13 : checkM (tabM tab [e4, e5, e7, e8, e10, e11, e12]) 3000 e13 = true := by kernel_rfl
theorem k13 : MemoOk Tryz.prog [e13] := checkM_ok (tabOk.memo (.cons k4 (.cons k5 (.cons k7 (.cons k8 (.cons k10 (.cons k11 (.cons k12 .nil)))))))) q13
def e14 : Nat × List AV × AV := (23, [.agg [.sc (.int .i64 2), .sc (.int .i64 0), .sc (.int .i64 0), .sc (.int .i64 0), .sc (.bool false), .sl true [], .sl true [], .sl true []], .sl false [.agg [.sc (.int .i64 0), .sc (.int .i64 0), .sc (.int .i64 1), .sc (.int .i64 0), .sc (.int .i64 0), .sc (.int .i64 0), .sl false [.agg [.sc (.bool false), .sc (.int .i64 1), .sl false [], .sc (.int .i64 0), .sl false []]]], .agg [.sc (.int .i64 1), .sc (.int .i64 1), .sc (.int .i64 0), .sc (.int .i64 0), .sc (.int .i64 0), .sc (.int .i64 0), .sl false []], .agg [.sc (.int .i64 0), .sc (.int .i64 0), .sc (.int .i64 2), .sc (.int .i64 0), .sc (.int .i64 0), .sc (.int .i64 0), .sl false [.agg [.sc (.bool true), .sc (.int .i64 1), .sl false [], .sc (.int .i64 0), .sl false []]]], .agg [.sc (.int .i64 1), .sc (.int .i64 2), .sc (.int .i64 0), .sc (.int .i64 0), .sc (.int .i64 0), .sc (.int .i64 0), .sl false []]]], .tup [.agg [.sc (.int .i64 2), .sc (.int .i64 0), .sc (.int .i64 0), .sc (.int .i64 0), .sc (.bool false), .sl false [.agg [.sc (.int .i64 1), .sc (.int .i64 0), .sc (.int .i64 0), .sc (.int .i64 0), .sl false [.agg [.sc (.bool false), .sc (.int .i64 1), .sl false [], .sc (.int .i64 0), .sl false []]]], .agg [.sc (.int .i64 2), .sc (.int .i64 0), .sc (.int .i64 0), .sc (.int .i64 0), .sl false [.agg [.sc (.bool true), .sc (.int .i64 1), .sl false [], .sc (.int .i64 0), .sl false []]]]], .sl true [], .sl false [.sc (.int .i64 1), .sc (.int .i64 2)]], .sc (.int .u8 0)])
theorem q14 : checkM (tabM tab []) 3000 e14 = true := by kernel_rfl
theorem k14 : MemoOk Tryz.prog [e14] := checkM_ok (tabOk.memo .nil) q14
def e15 : Nat × List AV × AV := (23, [.agg [.sc (.int .i64 2), .sc (.int .i64 0), .sc (.int .i64 0), .sc (.int .i64 0), .sc (.bool false), .sl false [.agg [.sc (.int .i64 1), .sc (.int .i64 0), .sc (.int .i64 0), .sc (.int .i64 0), .sl false [.agg [.sc (.bool false), .sc (.int .i64 1), .sl false [], .sc (.int .i64 0), .sl false []]]], .agg [.sc (.int .i64 2), .sc (.int .i64 0), .sc (.int .i64 0), .sc (.int .i64 0), .sl false [.agg [.sc (.bool true), .sc (.int .i64 1), .sl false [], .sc (.int .i64 0), .sl false []]]]], .sl true [], .sl false [.sc (.int .i64 1), .sc (.int .i64 2)]], .sl true [.agg [.sc (.int .i64 5), .sc (.int .i64 0), .sc (.int .i64 0), .sc (.int .i64 0), .sc (.int .i64 0), .sc (.int .i64 0), .sl false []]]], .tup [.agg [.sc (.int .i64 2), .sc (.int .i64 0), .sc (.int .i64 1), .sc (.int .i64 0), .sc (.bool false), .sl false [.agg [.sc (.int .i64 1), .sc (.int .i64 0), .sc (.int .i64 0), .sc (.int .i64 0), .sl false [.agg [.sc (.bool false), .sc (.int .i64 1), .sl false [], .sc (.int .i64 0), .sl false []]]], .agg [.sc (.int .i64 2), .sc (.int .i64 0), .sc (.int .i64 0), .sc (.int .i64 0), .sl false [.agg [.sc (.bool true), .sc (.int .i64 1), .sl false [], .sc (.int .i64 0), .sl false []]]]], .sl true [], .sl false [.sc (.int .i64 1), .sc (.int .i64 2)]], .sc (.int .u8 0)])
theorem q15 : checkM (tabM tab []) 3000 e15 = true := by kernel_rfl
theorem k15 : MemoOk Tryz.prog [e15] := checkM_ok (tabOk.memo .nil) q15
def e16 : Nat × List AV × AV := (79, [.sl false [.agg [.sc (.bool false), .sc (.int .i64 1), .sl false [], .sc (.int .i64 0), .sl false []]]], .sc (.int .i64 2))
theorem q16 : checkM (tabM tab []) 3000 e16 = true := by kernel_rfl
theorem k16 : MemoOk Tryz.prog [e16] := checkM_ok (tabOk.memo .nil) q16
def e17 : Nat × List AV × AV := (79, [.sl false [.agg [.sc (.bool true), .sc (.int .i64 1), .sl false [], .sc (.int .i64 0), .sl false []]]], .sc (.int .i64 2))
theorem q17 : checkM (tabM tab []) 3000 e17 = true := by kernel_rfl
theorem k17 : MemoOk Tryz.prog [e17] := checkM_ok (tabOk.memo .nil) q17
def e18 : Nat × List AV × AV := (23, [.agg [.sc (.int .i64 2), .sc (.int .i64 0), .sc (.int .i64 1), .sc (.int .i64 0), .sc (.bool false), .sl false [.agg [.sc (.int .i64 1), .sc (.int .i64 0), .sc (.int .i64 0), .sc (.int .i64 0), .sl false [.agg [.sc (.bool false), .sc (.int .i64 1), .sl false [], .sc (.int .i64 0), .sl false []]]], .agg [.sc (.int .i64 2), .sc (.int .i64 0), .sc (.int .i64 0), .sc (.int .i64 0), .sl false [.agg [.sc (.bool true), .sc (.int .i64 1), .sl false [], .sc (.int .i64 0), .sl false []]]]], .sl true [], .sl false [.sc (.int .i64 1), .sc (.int .i64 2)]], .sl true [.agg [.sc (.int .i64 2), .sc (.int .i64 1), .sc (.int .i64 0), .sc (.int .i64 0), .sc (.int .i64 0), .sc (.int .i64 0), .sl false []]]], .tup [.agg [.sc (.int .i64 2), .sc (.int .i64 1), .sc (.int .i64 1), .sc (.int .i64 0), .sc (.bool false), .sl false [.agg [.sc (.int .i64 1), .sc (.int .i64 0), .sc (.int .i64 0), .sc (.int .i64 0), .sl false [.agg [.sc (.bool false), .sc (.int .i64 1), .sl false [], .sc (.int .i64 0), .sl false []]]], .agg [.sc (.int .i64 2), .sc (.int .i64 0), .sc (.int .i64 0), .sc (.int .i64 0), .sl false [.agg [.sc (.bool true), .sc (.int .i64 1), .sl false [], .sc (.int .i64 0), .sl false []]]]], .sl true [], .sl false [.sc (.int .i64 2)]], .sc (.int .u8 0)])
theorem q18 : checkM (tabM tab []) 3000 e18 = true := by kernel_rfl
theorem k18 : MemoOk Tryz.prog [e18] := checkM_ok (tabOk.memo .nil) q18
def e19 : Nat × List AV × AV := (155, [.sl true [], .agg [.sc (.int .i64 1), .sl false []]], .tup [.agg [.sc (.int .i64 1), .sl false []], .sc (.int .i64 0), .sc (.bool false)])
theorem q19 : checkM (tabM tab []) 3000 e19 = true := by kernel_rfl
theorem k19 : MemoOk Tryz.prog [e19] := checkM_ok (tabOk.memo .nil) q19
end Go.AW

/-
  Calls of the program, reckoned by the evaluator, part 3.
-/
namespace Go.AW
open Go Go.RowKit Go.Proofs
set_option linter.unusedVariables false
set_option maxRecDepth 100000
def e20 : Nat × List AV × AV := (155, [.sl true [], .agg [.sc (.int .i64 0), .sl false []]], .tup [.agg [.sc (.int .i64 0), .sl false []], .sc (.int .i64 0), .sc (.bool false)])
theorem q20 : checkM (tabM tab []) 3000 e20 = true := by kernel_rfl
theorem k20 : MemoOk Tryz.prog [e20] := checkM_ok (tabOk.memo .nil) q20
def e21 : Nat × List AV × AV := (23, [.agg [.sc (.int .i64 2), .sc (.int .i64 1), .sc (.int .i64 1), .sc (.int .i64 0), .sc (.bool false), .sl false [.agg [.sc (.int .i64 1), .sc (.int .i64 0), .sc (.int .i64 0), .sc (.int .i64 0), .sl false [.agg [.sc (.bool false), .sc (.int .i64 1), .sl false [], .sc (.int .i64 0), .sl false []]]], .agg [.sc (.int .i64 2), .sc (.int .i64 0), .sc (.int .i64 0), .sc (.int .i64 0), .sl false [.agg [.sc (.bool true), .sc (.int .i64 1), .sl false [], .sc (.int .i64 0), .sl false []]]]], .sl true [], .sl false [.sc (.int .i64 2)]], .sl true [.agg [.sc (.int .i64 3), .sc (.int .i64 1), .sc (.int .i64 0), .sc (.int .i64 0), .sc (.int .i64 0), .sc (.int .i64 0), .sl false []]]], .tup [.agg [.sc (.int .i64 2), .sc (.int .i64 1), .sc (.int .i64 1), .sc (.int .i64 0), .sc (.bool false), .sl false [.agg [.sc (.int .i64 1), .sc (.int .i64 0), .sc (.int .i64 0), .sc (.int .i64 0), .sl false [.agg [.sc (.bool false), .sc (.int .i64 1), .sl false [], .sc (.int .i64 0), .sl false []]]], .agg [.sc (.int .i64 2), .sc (.int .i64 0), .sc (.int .i64 0), .sc (.int .i64 0), .sl false [.agg [.sc (.bool true), .sc (.int .i64 1), .sl false [], .sc (.int .i64 0), .sl false []]]]], .sl false [.sc (.int .i64 1)], .sl false [.sc (.int .i64 2)]], .sc (.int .u8 0)])
theorem q21 : checkM (tabM tab []) 3000 e21 = true := by kernel_rfl
theorem k21 : MemoOk Tryz.prog [e21] := checkM_ok (tabOk.memo .nil) q21
def e22 : Nat × List AV × AV := (131, [.agg [.sc (.int .i64 1), .sl false []], .agg [.sc (.int .i64 1), .sl false []]], .sc (.int .i64 0))
theorem q22 : checkM (tabM tab []) 3000 e22 = true := by kernel_rfl
theorem k22 : MemoOk Tryz.prog [e22] := checkM_ok (tabOk.memo .nil) q22
def e23 : Nat × List AV × AV := (131, [.agg [.sc (.int .i64 0), .sl false []], .agg [.sc (.int .i64 0), .sl false []]], .sc (.int .i64 0))
theorem q23 : checkM (tabM tab []) 3000 e23 = true := by kernel_rfl
theorem k23 : MemoOk Tryz.prog [e23] := checkM_ok (tabOk.memo .nil) q23
def e24 : Nat × List AV × AV := (248, [.sl true [.agg [.sc (.int .i64 1), .sl false []], .agg [.sc (.int .i64 0), .sl false []]], .sl true [.agg [.sc (.int .i64 1), .sl false []], .agg [.sc (.int .i64 0), .sl false []]]], .sc (.bool false))
theorem q24 : checkM (tabM tab [e22, e23]) 3000 e24 = true := by kernel_rfl
theorem k24 : MemoOk Tryz.prog [e24] := checkM_ok (tabOk.memo (.cons k22 (.cons k23 .nil))) q24
def e25 : Nat × List AV × AV := (196, [.sl false [.agg [.sc (.bool false), .sc (.int .i64 1), .sl false [], .sc (.int .i64 0), .sl false []]], .sc (.int .i64 0)], .sc (.bool true))
theorem q25 : checkM (tabM tab [e24]) 3000 e25 = true := by kernel_rfl
theorem k25 : MemoOk Tryz.prog [e25] := checkM_ok (tabOk.memo (.cons k24 .nil)) q25
def e26 : Nat × List AV × AV := (110, [.sl false [.agg [.sc (.bool false), .sc (.int .i64 1), .sl false [], .sc (.int .i64 0), .sl false []]]], .sl true [])
theorem q26 : checkM (tabM tab [e25]) 3000 e26 = true := by kernel_rfl
theorem k26 : MemoOk Tryz.prog [e26] := checkM_ok (tabOk.memo (.cons k25 .nil)) q26
def e27 : Nat × List AV × AV := (111, [.sl false [.agg [.sc (.bool false), .sc (.int .i64 1), .sl false [], .sc (.int .i64 0), .sl false []]]], .sl true [])
theorem q27 : checkM (tabM tab [e25]) 3000 e27 = true := by kernel_rfl
theorem k27 : MemoOk Tryz.prog [e27] := checkM_ok (tabOk.memo (.cons k25 .nil)) q27
def e28 : Nat × List AV × AV := (208, [.sl false [.agg [.sc (.bool false), .sc (.int .i64 1), .sl false [], .sc (.int .i64 0), .sl false []]]], .sc (.int .i64 (-1)))
theorem q28 : checkM (tabM tab []) 3000 e28 = true := by kernel_rfl
theorem k28 : MemoOk Tryz.prog [e28] := checkM_ok (tabOk.memo .nil) q28
def e29 : Nat × List AV × AV := (207, [.sl false [.agg [.sc (.bool false), .sc (.int .i64 1), .sl false [], .sc (.int .i64 0), .sl false []]], .sc (.int .i64 0)], .sl false [.agg [.sc (.bool false), .sc (.int .i64 1), .sl false [], .sc (.int .i64 0), .sl false []]])
theorem q29 : checkM (tabM tab []) 3000 e29 = true := by kernel_rfl
theorem k29 : MemoOk Tryz.prog [e29] := checkM_ok (tabOk.memo .nil) q29
def e30 : Nat × List AV × AV := (131, [.agg [.sc (.int .i64 1), .sl true []], .agg [.sc (.int .i64 1), .sl true []]], .sc (.int .i64 0))
theorem q30 : checkM (tabM tab []) 3000 e30 = true := by kernel_rfl
theorem k30 : MemoOk Tryz.prog [e30] := checkM_ok (tabOk.memo .nil) q30
def e31 : Nat × List AV × AV := (231, [.sl true []], .sl true [])
theorem q31 : checkM (tabM tab []) 3000 e31 = true := by kernel_rfl
theorem k31 : MemoOk Tryz.prog [e31] := checkM_ok (tabOk.memo .nil) q31
def e32 : Nat × List AV × AV := (197, [.sl true [.agg [.sc (.int .i64 1), .sl false [], .sc (.int .i64 1), .sl false []]]], .tup [.sl true [], .sc (.bool true)])
theorem q32 : checkM (tabM tab [e30, e31]) 3000 e32 = true := by kernel_rfl
theorem k32 : MemoOk Tryz.prog [e32] := checkM_ok (tabOk.memo (.cons k30 (.cons k31 .nil))) q32
end Go.AW

/-
  Calls of the program, reckoned by the evaluator, part 4.
-/
namespace Go.AW
open Go Go.RowKit Go.Proofs
set_option linter.unusedVariables false
set_option maxRecDepth 100000
def e33 : Nat × List AV × AV := (201, [.agg [.sc (.int .i64 1), .sl true []], .agg [.sc (.int .i64 0), .sl true []]], .sc (.bool true))
theorem q33 : checkM (tabM tab []) 3000 e33 = true := by kernel_rfl
theorem k33 : MemoOk Tryz.prog [e33] := checkM_ok (tabOk.memo .nil) q33
def e34 : Nat × List AV × AV := (238, [.agg [.sc (.int .i64 0), .sc (.int .i64 1), .sl false [], .sc (.int .i64 0), .sl false []], .sl true [], .sc (.bool false)], .sc (.bool true))
theorem q34 : checkM (tabM tab [e2, e33]) 3000 e34 = true := by kernel_rfl
theorem k34 : MemoOk Tryz.prog [e34] := checkM_ok (tabOk.memo (.cons k2 (.cons k33 .nil))) q34
def e35 : Nat × List AV × AV := (156, [.sl true [.sl false [], .sl false []]], .sl true [])
theorem q35 : checkM (tabM tab []) 3000 e35 = true := by kernel_rfl
theorem k35 : MemoOk Tryz.prog [e35] := checkM_ok (tabOk.memo .nil) q35
def e36 : Nat × List AV × AV := (211, [.sl false [.agg [.sc (.bool false), .sc (.int .i64 1), .sl false [], .sc (.int .i64 0), .sl false []]], .sl false [.agg [.sc (.bool false), .sc (.int .i64 1), .sl false [], .sc (.int .i64 0), .sl false []]], .agg [.sc (.int .i64 0), .sc (.int .i64 1), .sl false [], .sc (.int .i64 0), .sl false []], .agg [.sc (.int .i64 0), .sc (.int .i64 1), .sl false [], .sc (.int .i64 0), .sl false []], .sl false [], .sc (.bool false)], .tup [.sl false [.agg [.sc (.bool false), .sc (.int .i64 0), .sl false [], .sc (.int .i64 0), .sl false []]], .sc (.bool true)])
theorem q36 : checkM (tabM tab [e32, e34, e35]) 3000 e36 = true := by kernel_rfl
theorem k36 : MemoOk Tryz.prog [e36] := checkM_ok (tabOk.memo (.cons k32 (.cons k34 (.cons k35 .nil)))) q36
def e37 : Nat × List AV × AV := (197, [.sl true [.agg [.sc (.int .i64 1), .sl false [], .sc (.int .i64 0), .sl false []]]], .tup [.sl true [], .sc (.bool false)])
theorem q37 : checkM (tabM tab [e2]) 3000 e37 = true := by kernel_rfl
theorem k37 : MemoOk Tryz.prog [e37] := checkM_ok (tabOk.memo (.cons k2 .nil)) q37
def e38 : Nat × List AV × AV := (131, [.agg [.sc (.int .i64 0), .sl true []], .agg [.sc (.int .i64 1), .sl true []]], .sc (.int .i64 (-1)))
theorem q38 : checkM (tabM tab []) 3000 e38 = true := by kernel_rfl
theorem k38 : MemoOk Tryz.prog [e38] := checkM_ok (tabOk.memo .nil) q38
def e39 : Nat × List AV × AV := (197, [.sl true [.agg [.sc (.int .i64 0), .sl false [], .sc (.int .i64 1), .sl false []]]], .tup [.sl true [], .sc (.bool false)])
theorem q39 : checkM (tabM tab [e38]) 3000 e39 = true := by kernel_rfl
theorem k39 : MemoOk Tryz.prog [e39] := checkM_ok (tabOk.memo (.cons k38 .nil)) q39
def e40 : Nat × List AV × AV := (131, [.agg [.sc (.int .i64 0), .sl true []], .agg [.sc (.int .i64 0), .sl true []]], .sc (.int .i64 0))
theorem q40 : checkM (tabM tab []) 3000 e40 = true := by kernel_rfl
theorem k40 : MemoOk Tryz.prog [e40] := checkM_ok (tabOk.memo .nil) q40
def e41 : Nat × List AV × AV := (197, [.sl true [.agg [.sc (.int .i64 0), .sl false [], .sc (.int .i64 0), .sl false []]]], .tup [.sl true [], .sc (.bool true)])
theorem q41 : checkM (tabM tab [e31, e40]) 3000 e41 = true := by kernel_rfl
theorem k41 : MemoOk Tryz.prog [e41] := checkM_ok (tabOk.memo (.cons k31 (.cons k40 .nil))) q41
def e42 : Nat × List AV × AV := (201, [.agg [.sc (.int .i64 0), .sl true []], .agg [.sc (.int .i64 1), .sl true []]], .sc (.bool false))
theorem q42 : checkM (tabM tab []) 3000 e42 = true := by kernel_rfl
theorem k42 : MemoOk Tryz.prog [e42] := checkM_ok (tabOk.memo .nil) q42
end Go.AW

/-
  Calls of the program, reckoned by the evaluator, part 5.
-/
namespace Go.AW
open Go Go.RowKit Go.Proofs
set_option linter.unusedVariables false
set_option maxRecDepth 100000
def e43 : Nat × List AV × AV := (238, [.agg [.sc (.int .i64 0), .sc (.int .i64 0), .sl false [], .sc (.int .i64 1), .sl false []], .sl true [], .sc (.bool false)], .sc (.bool false))
theorem q43 : checkM (tabM tab [e33, e38, e42]) 3000 e43 = true := by kernel_rfl
theorem k43 : MemoOk Tryz.prog [e43] := checkM_ok (tabOk.memo (.cons k33 (.cons k38 (.cons k42 .nil)))) q43
def e44 : Nat × List AV × AV := (211, [.sl false [.agg [.sc (.bool false), .sc (.int .i64 1), .sl false [], .sc (.int .i64 0), .sl false []]], .sl false [.agg [.sc (.bool false), .sc (.int .i64 1), .sl false [], .sc (.int .i64 0), .sl false []]], .agg [.sc (.int .i64 0), .sc (.int .i64 0), .sl false [], .sc (.int .i64 1), .sl false []], .agg [.sc (.int .i64 0), .sc (.int .i64 0), .sl false [], .sc (.int .i64 1), .sl false []], .sl false [], .sc (.bool false)], .tup [.sl true [], .sc (.bool false)])
theorem q44 : checkM (tabM tab [e41, e43]) 3000 e44 = true := by kernel_rfl
theorem k44 : MemoOk Tryz.prog [e44] := checkM_ok (tabOk.memo (.cons k41 (.cons k43 .nil))) q44
def e45 : Nat × List AV × AV := (165, [.sl false [.agg [.sc (.bool false), .sc (.int .i64 1), .sl false [], .sc (.int .i64 0), .sl false []]], .sl false [.agg [.sc (.bool false), .sc (.int .i64 1), .sl false [], .sc (.int .i64 0), .sl false []]], .sc (.bool false)], .sl false [.sl false [.agg [.sc (.bool false), .sc (.int .i64 0), .sl false [], .sc (.int .i64 0), .sl false []]]])
theorem q45 : checkM (tabM tab [e25, e28, e29, e36, e37, e39, e44]) 3000 e45 = true := by kernel_rfl
theorem k45 : MemoOk Tryz.prog [e45] := checkM_ok (tabOk.memo (.cons k25 (.cons k28 (.cons k29 (.cons k36 (.cons k37 (.cons k39 (.cons k44 .nil)))))))) q45
def e46 : Nat × List AV × AV := (125, [.agg [.sc (.bool false), .sc (.int .i64 0), .sl false [], .sc (.int .i64 0), .sl false []]], .agg [.sc (.bool false), .sc (.int .i64 0), .sl false [], .sc (.int .i64 0), .sl false [], .sc (.int .i64 0), .sl true [], .sc (.int .i64 0), .sl true []])
theorem q46 : checkM (tabM tab [e40]) 3000 e46 = true := by kernel_rfl
theorem k46 : MemoOk Tryz.prog [e46] := checkM_ok (tabOk.memo (.cons k40 .nil)) q46
def e47 : Nat × List AV × AV := (82, [.sl false [.agg [.sc (.bool false), .sc (.int .i64 0), .sl false [], .sc (.int .i64 0), .sl false []]]], .sl false [.agg [.sc (.bool false), .sc (.int .i64 0), .sl false [], .sc (.int .i64 0), .sl false []]])
theorem q47 : checkM (tabM tab [e46]) 3000 e47 = true := by kernel_rfl
theorem k47 : MemoOk Tryz.prog [e47] := checkM_ok (tabOk.memo (.cons k46 .nil)) q47
def e48 : Nat × List AV × AV := (79, [.sl false [.agg [.sc (.bool false), .sc (.int .i64 0), .sl false [], .sc (.int .i64 0), .sl false []]]], .sc (.int .i64 2))
theorem q48 : checkM (tabM tab []) 3000 e48 = true := by kernel_rfl
theorem k48 : MemoOk Tryz.prog [e48] := checkM_ok (tabOk.memo .nil) q48
def e49 : Nat × List AV × AV := (24, [.agg [.sc (.int .i64 2), .sc (.int .i64 0), .sc (.int .i64 0), .sc (.int .i64 0), .sc (.bool false), .sl false [.agg [.sc (.int .i64 1), .sc (.int .i64 0), .sc (.int .i64 0), .sc (.int .i64 0), .sl false [.agg [.sc (.bool false), .sc (.int .i64 1), .sl false [], .sc (.int .i64 0), .sl false []]]], .agg [.sc (.int .i64 2), .sc (.int .i64 0), .sc (.int .i64 0), .sc (.int .i64 0), .sl false [.agg [.sc (.bool true), .sc (.int .i64 1), .sl false [], .sc (.int .i64 0), .sl false []]]]], .sl true [], .sl false [.sc (.int .i64 1), .sc (.int .i64 2)]], .sc (.int .i64 10)], .sl false [.agg [.sc (.int .i64 5), .sc (.int .i64 0), .sc (.int .i64 0), .sc (.int .i64 0), .sc (.int .i64 0), .sc (.int .i64 0), .sl false []], .agg [.sc (.int .i64 2), .sc (.int .i64 1), .sc (.int .i64 0), .sc (.int .i64 0), .sc (.int .i64 0), .sc (.int .i64 0), .sl false []], .agg [.sc (.int .i64 3), .sc (.int .i64 1), .sc (.int .i64 0), .sc (.int .i64 0), .sc (.int .i64 0), .sc (.int .i64 0), .sl false []]])
theorem q49 : checkM (tabM tab [e7, e15, e16, e17, e18, e19, e20, e21, e23, e26, e27, e45, e47, e48]) 3000 e49 = true := by kernel_rfl
theorem k49 : MemoOk Tryz.prog [e49] := checkM_ok (tabOk.memo (.cons k7 (.cons k15 (.cons k16 (.cons k17 (.cons k18 (.cons k19 (.cons k20 (.cons k21 (.cons k23 (.cons k26 (.cons k27 (.cons k45 (.cons k47 (.cons k48 .nil))))))))))))))) q49
end Go.AW

/-
  Calls of the program, reckoned by the evaluator, part 6.
-/
namespace Go.AW
open Go Go.RowKit Go.Proofs
set_option linter.unusedVariables false
set_option maxRecDepth 100000
def e50 : Nat × List AV × AV := (23, [.agg [.sc (.int .i64 2), .sc (.int .i64 0), .sc (.int .i64 0), .sc (.int .i64 0), .sc (.bool false), .sl false [.agg [.sc (.int .i64 1), .sc (.int .i64 0), .sc (.int .i64 0), .sc (.int .i64 0), .sl false [.agg [.sc (.bool false), .sc (.int .i64 1), .sl false [], .sc (.int .i64 0), .sl false []]]], .agg [.sc (.int .i64 2), .sc (.int .i64 0), .sc (.int .i64 0), .sc (.int .i64 0), .sl false [.agg [.sc (.bool true), .sc (.int .i64 1), .sl false [], .sc (.int .i64 0), .sl false []]]]], .sl true [], .sl false [.sc (.int .i64 1), .sc (.int .i64 2)]], .sl false [.agg [.sc (.int .i64 5), .sc (.int .i64 0), .sc (.int .i64 0), .sc (.int .i64 0), .sc (.int .i64 0), .sc (.int .i64 0), .sl false []], .agg [.sc (.int .i64 2), .sc (.int .i64 1), .sc (.int .i64 0), .sc (.int .i64 0), .sc (.int .i64 0), .sc (.int .i64 0), .sl false []], .agg [.sc (.int .i64 3), .sc (.int .i64 1), .sc (.int .i64 0), .sc (.int .i64 0), .sc (.int .i64 0), .sc (.int .i64 0), .sl false []]]], .tup [.agg [.sc (.int .i64 2), .sc (.int .i64 1), .sc (.int .i64 1), .sc (.int .i64 0), .sc (.bool false), .sl false [.agg [.sc (.int .i64 1), .sc (.int .i64 0), .sc (.int .i64 0), .sc (.int .i64 0), .sl false [.agg [.sc (.bool false), .sc (.int .i64 1), .sl false [], .sc (.int .i64 0), .sl false []]]], .agg [.sc (.int .i64 2), .sc (.int .i64 0), .sc (.int .i64 0), .sc (.int .i64 0), .sl false [.agg [.sc (.bool true), .sc (.int .i64 1), .sl false [], .sc (.int .i64 0), .sl false []]]]], .sl false [.sc (.int .i64 1)], .sl false [.sc (.int .i64 2)]], .sc (.int .u8 0)])
theorem q50 : checkM (tabM tab []) 3000 e50 = true := by kernel_rfl
theorem k50 : MemoOk Tryz.prog [e50] := checkM_ok (tabOk.memo .nil) q50
def e51 : Nat × List AV × AV := (23, [.agg [.sc (.int .i64 2), .sc (.int .i64 1), .sc (.int .i64 1), .sc (.int .i64 0), .sc (.bool false), .sl false [.agg [.sc (.int .i64 1), .sc (.int .i64 0), .sc (.int .i64 0), .sc (.int .i64 0), .sl false [.agg [.sc (.bool false), .sc (.int .i64 1), .sl false [], .sc (.int .i64 0), .sl false []]]], .agg [.sc (.int .i64 2), .sc (.int .i64 0), .sc (.int .i64 0), .sc (.int .i64 0), .sl false [.agg [.sc (.bool true), .sc (.int .i64 1), .sl false [], .sc (.int .i64 0), .sl false []]]]], .sl false [.sc (.int .i64 1)], .sl false [.sc (.int .i64 2)]], .sl true [.agg [.sc (.int .i64 5), .sc (.int .i64 0), .sc (.int .i64 0), .sc (.int .i64 0), .sc (.int .i64 0), .sc (.int .i64 0), .sl false []]]], .tup [.agg [.sc (.int .i64 2), .sc (.int .i64 1), .sc (.int .i64 2), .sc (.int .i64 0), .sc (.bool false), .sl false [.agg [.sc (.int .i64 1), .sc (.int .i64 0), .sc (.int .i64 0), .sc (.int .i64 0), .sl false [.agg [.sc (.bool false), .sc (.int .i64 1), .sl false [], .sc (.int .i64 0), .sl false []]]], .agg [.sc (.int .i64 2), .sc (.int .i64 0), .sc (.int .i64 0), .sc (.int .i64 0), .sl false [.agg [.sc (.bool true), .sc (.int .i64 1), .sl false [], .sc (.int .i64 0), .sl false []]]]], .sl false [.sc (.int .i64 1)], .sl false [.sc (.int .i64 2)]], .sc (.int .u8 0)])
theorem q51 : checkM (tabM tab []) 3000 e51 = true := by kernel_rfl
theorem k51 : MemoOk Tryz.prog [e51] := checkM_ok (tabOk.memo .nil) q51
def e52 : Nat × List AV × AV := (23, [.agg [.sc (.int .i64 2), .sc (.int .i64 1), .sc (.int .i64 2), .sc (.int .i64 0), .sc (.bool false), .sl false [.agg [.sc (.int .i64 1), .sc (.int .i64 0), .sc (.int .i64 0), .sc (.int .i64 0), .sl false [.agg [.sc (.bool false), .sc (.int .i64 1), .sl false [], .sc (.int .i64 0), .sl false []]]], .agg [.sc (.int .i64 2), .sc (.int .i64 0), .sc (.int .i64 0), .sc (.int .i64 0), .sl false [.agg [.sc (.bool true), .sc (.int .i64 1), .sl false [], .sc (.int .i64 0), .sl false []]]]], .sl false [.sc (.int .i64 1)], .sl false [.sc (.int .i64 2)]], .sl true [.agg [.sc (.int .i64 2), .sc (.int .i64 2), .sc (.int .i64 0), .sc (.int .i64 0), .sc (.int .i64 0), .sc (.int .i64 0), .sl false []]]], .tup [.agg [.sc (.int .i64 2), .sc (.int .i64 2), .sc (.int .i64 2), .sc (.int .i64 0), .sc (.bool false), .sl false [.agg [.sc (.int .i64 1), .sc (.int .i64 0), .sc (.int .i64 0), .sc (.int .i64 0), .sl false [.agg [.sc (.bool false), .sc (.int .i64 1), .sl false [], .sc (.int .i64 0), .sl false []]]], .agg [.sc (.int .i64 2), .sc (.int .i64 0), .sc (.int .i64 0), .sc (.int .i64 0), .sl false [.agg [.sc (.bool true), .sc (.int .i64 1), .sl false [], .sc (.int .i64 0), .sl false []]]]], .sl false [.sc (.int .i64 1)], .sl false []], .sc (.int .u8 0)])
theorem q52 : checkM (tabM tab []) 3000 e52 = true := by kernel_rfl
theorem k52 : MemoOk Tryz.prog [e52] := checkM_ok (tabOk.memo .nil) q52
def e53 : Nat × List AV × AV := (201, [.agg [.sc (.int .i64 1), .sl false []], .agg [.sc (.int .i64 0), .sl false []]], .sc (.bool true))
theorem q53 : checkM (tabM tab []) 3000 e53 = true := by kernel_rfl
theorem k53 : MemoOk Tryz.prog [e53] := checkM_ok (tabOk.memo .nil) q53
def e54 : Nat × List AV × AV := (155, [.sl false [.agg [.sc (.int .i64 1), .sc (.int .i64 1), .sl false [], .sc (.int .i64 0), .sl false []]], .agg [.sc (.int .i64 1), .sl false []]], .tup [.agg [.sc (.int .i64 0), .sl true []], .sc (.int .i64 1), .sc (.bool true)])
theorem q54 : checkM (tabM tab []) 3000 e54 = true := by kernel_rfl
theorem k54 : MemoOk Tryz.prog [e54] := checkM_ok (tabOk.memo .nil) q54
def e55 : Nat × List AV × AV := (125, [.agg [.sc (.bool true), .sc (.int .i64 0), .sl false [], .sc (.int .i64 0), .sl false []]], .agg [.sc (.bool true), .sc (.int .i64 0), .sl false [], .sc (.int .i64 0), .sl false [], .sc (.int .i64 0), .sl true [], .sc (.int .i64 0), .sl true []])
theorem q55 : checkM (tabM tab [e40]) 3000 e55 = true := by kernel_rfl
theorem k55 : MemoOk Tryz.prog [e55] := checkM_ok (tabOk.memo (.cons k40 .nil)) q55
def e56 : Nat × List AV × AV := (82, [.sl false [.agg [.sc (.bool true), .sc (.int .i64 0), .sl false [], .sc (.int .i64 0), .sl false []]]], .sl false [.agg [.sc (.bool true), .sc (.int .i64 0), .sl false [], .sc (.int .i64 0), .sl false []]])
theorem q56 : checkM (tabM tab [e55]) 3000 e56 = true := by kernel_rfl
theorem k56 : MemoOk Tryz.prog [e56] := checkM_ok (tabOk.memo (.cons k55 .nil)) q56
end Go.AW
