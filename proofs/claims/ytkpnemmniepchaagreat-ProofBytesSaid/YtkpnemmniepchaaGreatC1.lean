/-
  The code of the functions, compiled.
-/
import Derived.Test.YtkpnemmniepchaaGreatL1
/-
  The code of the functions, as it is read.
-/
namespace Go.AW
open Go Go.RowKit Go.Proofs
set_option linter.unusedVariables false
set_option maxRecDepth 100000

/-- sorites/code.PutUint -/
def c63r0 : List AI := [⟨some 5, none, .mov (.tmp 0)⟩,
  ⟨some 6, none, .call (.func 113) [(.tmp 5)]⟩,
  ⟨some 0, none, .mov (.tmp 6)⟩]
def c63r1 : List AI := [⟨some 11, none, .mov (.tmp 0)⟩,
  ⟨some 12, none, .mov (.tmp 1)⟩,
  ⟨some 13, none, .cvi .u8 (.tmp 12)⟩,
  ⟨some 14, none, .bin .or (.int .u8) (.tmp 13) (.const (.int .u8 128))⟩,
  ⟨some 15, none, .mksl 5 1 [(.tmp 14)]⟩,
  ⟨some 16, none, .app 5 1 1 (.tmp 11) (.tmp 15)⟩,
  ⟨some 0, none, .mov (.tmp 16)⟩]
def c63r2 : List AI := [⟨some 9, none, .mov (.tmp 1)⟩,
  ⟨some 10, none, .bin .shr (.int .u64) (.tmp 9) (.const (.int .u64 7))⟩,
  ⟨some 1, none, .mov (.tmp 10)⟩]
def c63l3 : AC := (.seq (.seq (.reg [⟨some 7, none, .mov (.tmp 1)⟩,
    ⟨some 8, none, .bin .geq (.int .u64) (.tmp 7) (.const (.int .u64 128))⟩]) (.cond (.tmp 8) .skip (.exit 0))) (.seq (.block 1 (.reg c63r1)) (.reg c63r2)))
def c63r4 : List AI := [⟨some 17, none, .mov (.tmp 0)⟩,
  ⟨some 18, none, .mov (.tmp 1)⟩,
  ⟨some 19, none, .cvi .u8 (.tmp 18)⟩,
  ⟨some 20, none, .mksl 5 1 [(.tmp 19)]⟩,
  ⟨some 21, none, .app 5 1 1 (.tmp 17) (.tmp 20)⟩,
  ⟨some 4, none, .mov (.tmp 21)⟩]
def c63 : AC := (.seq (.reg [⟨some 4, none, .mov (.const (.slice none 0 0))⟩]) (.seq (.reg c63r0) (.seq (.block 0 (.loop c63l3)) (.seq (.reg c63r4) .ret))))
theorem t63 : tabFn 63 = some (22, c63, [.tmp 4]) := by kernel_rfl
/-- slices.Clip[[]byte,byte] -/
def c113r0 : List AI := [⟨some 3, none, .mov (.tmp 0)⟩,
  ⟨some 4, none, .mov (.tmp 0)⟩,
  ⟨some 5, none, .len false (.tmp 4)⟩,
  ⟨some 6, none, .mov (.tmp 0)⟩,
  ⟨some 7, none, .len false (.tmp 6)⟩,
  ⟨some 8, none, .slc 1 (.tmp 3) none (some (.tmp 5)) (some (.tmp 7))⟩,
  ⟨some 2, none, .mov (.tmp 8)⟩]
def c113 : AC := (.seq (.reg [⟨some 2, none, .mov (.const (.slice none 0 0))⟩]) (.seq (.reg c113r0) .ret))
theorem t113 : tabFn 113 = some (9, c113, [.tmp 2]) := by kernel_rfl
/-- sorites/code.PutInt -/
def c66r0 : List AI := [⟨some 5, none, .mov (.tmp 0)⟩,
  ⟨some 6, none, .mov (.tmp 1)⟩,
  ⟨some 7, none, .cvi .u64 (.tmp 6)⟩,
  ⟨some 8, none, .bin .shl (.int .u64) (.tmp 7) (.const (.int .u64 1))⟩,
  ⟨some 9, none, .mov (.tmp 1)⟩,
  ⟨some 10, none, .bin .shr (.int .i64) (.tmp 9) (.const (.int .u64 63))⟩,
  ⟨some 11, none, .cvi .u64 (.tmp 10)⟩,
  ⟨some 12, none, .bin .xor (.int .u64) (.tmp 8) (.tmp 11)⟩,
  ⟨some 13, none, .call (.func 63) [(.tmp 5), (.tmp 12)]⟩,
  ⟨some 4, none, .mov (.tmp 13)⟩]
def c66 : AC := (.seq (.reg [⟨some 4, none, .mov (.const (.slice none 0 0))⟩]) (.seq (.reg c66r0) .ret))
theorem t66 : tabFn 66 = some (14, c66, [.tmp 4]) := by kernel_rfl
/-- sorites/code.Uint -/
def c167r0 : List AI := [⟨some 4, none, .mov (.const (.int .u64 0))⟩,
  ⟨some 5, none, .mov (.const (.int .i64 0))⟩,
  ⟨some 6, none, .mov (.const (.int .u8 0))⟩]
def c167r1 : List AI := [⟨some 10, none, .mov (.tmp 1)⟩,
  ⟨some 11, none, .bin .lss (.int .i64) (.tmp 10) (.const (.int .i64 0))⟩,
  ⟨some 12, none, .mov (.tmp 11)⟩,
  ⟨some 13, some (12, false), .mov (.tmp 1)⟩,
  ⟨some 14, some (12, false), .mov (.tmp 0)⟩,
  ⟨some 15, some (12, false), .len false (.tmp 14)⟩,
  ⟨some 16, some (12, false), .bin .gtr (.int .i64) (.tmp 13) (.tmp 15)⟩,
  ⟨some 17, none, .pick (.tmp 12) (.const (.bool true)) (.tmp 16)⟩]
def c167r2 : List AI := [⟨some 4, none, .mov (.const (.int .u64 0))⟩,
  ⟨some 5, none, .mov (.const (.int .i64 0))⟩,
  ⟨some 6, none, .mov (.const (.int .u8 1))⟩]
def c167r3 : List AI := [⟨some 18, none, .mov (.tmp 0)⟩,
  ⟨some 19, none, .mov (.tmp 1)⟩,
  ⟨some 20, none, .slc 1 (.tmp 18) (some (.tmp 19)) none none⟩,
  ⟨some 21, none, .len false (.tmp 20)⟩,
  ⟨some 22, none, .mov (.const (.int .i64 0))⟩]
def c167r4 : List AI := [⟨some 24, none, .mov (.tmp 22)⟩,
  ⟨some 25, none, .iaddr 1 (.tmp 20) (.tmp 22)⟩,
  ⟨some 26, none, .load false 1 (.tmp 25)⟩,
  ⟨some 8, none, .mov (.tmp 24)⟩,
  ⟨some 9, none, .mov (.tmp 26)⟩]
def c167r5 : List AI := [⟨some 27, none, .mov (.tmp 8)⟩,
  ⟨some 28, none, .bin .eql (.int .i64) (.tmp 27) (.const (.int .i64 10))⟩,
  ⟨some 29, none, .mov (.tmp 28)⟩,
  ⟨some 30, some (29, false), .mov (.tmp 8)⟩,
  ⟨some 31, some (29, false), .bin .eql (.int .i64) (.tmp 30) (.const (.int .i64 9))⟩,
  ⟨some 32, some (29, false), .mov (.tmp 31)⟩,
  ⟨some 33, some (32, true), .mov (.tmp 9)⟩,
  ⟨some 34, some (32, true), .bin .gtr (.int .u8) (.tmp 33) (.const (.int .u8 1))⟩,
  ⟨some 35, some (29, false), .pick (.tmp 32) (.tmp 34) (.const (.bool false))⟩,
  ⟨some 36, none, .pick (.tmp 29) (.const (.bool true)) (.tmp 35)⟩]
def c167r6 : List AI := [⟨some 4, none, .mov (.const (.int .u64 0))⟩,
  ⟨some 5, none, .mov (.const (.int .i64 0))⟩,
  ⟨some 6, none, .mov (.const (.int .u8 7))⟩]
def c167r7 : List AI := [⟨some 37, none, .mov (.tmp 7)⟩,
  ⟨some 38, none, .mov (.tmp 9)⟩,
  ⟨some 39, none, .bin .andNot (.int .u8) (.tmp 38) (.const (.int .u8 128))⟩,
  ⟨some 40, none, .cvi .u64 (.tmp 39)⟩,
  ⟨some 41, none, .mov (.tmp 8)⟩,
  ⟨some 42, none, .cvi .u64 (.tmp 41)⟩,
  ⟨some 43, none, .bin .mul (.int .u64) (.const (.int .u64 7)) (.tmp 42)⟩,
  ⟨some 44, none, .bin .shl (.int .u64) (.tmp 40) (.tmp 43)⟩,
  ⟨some 45, none, .bin .or (.int .u64) (.tmp 37) (.tmp 44)⟩,
  ⟨some 7, none, .mov (.tmp 45)⟩]
def c167r8 : List AI := [⟨some 48, none, .mov (.tmp 9)⟩,
  ⟨some 49, none, .bin .eql (.int .u8) (.tmp 48) (.const (.int .u8 0))⟩,
  ⟨some 50, none, .mov (.tmp 49)⟩,
  ⟨some 51, some (50, true), .mov (.tmp 8)⟩,
  ⟨some 52, some (50, true), .bin .gtr (.int .i64) (.tmp 51) (.const (.int .i64 0))⟩,
  ⟨some 53, none, .pick (.tmp 50) (.tmp 52) (.const (.bool false))⟩]
def c167r9 : List AI := [⟨some 4, none, .mov (.const (.int .u64 0))⟩,
  ⟨some 5, none, .mov (.const (.int .i64 0))⟩,
  ⟨some 6, none, .mov (.const (.int .u8 7))⟩]
def c167r10 : List AI := [⟨some 54, none, .mov (.tmp 7)⟩,
  ⟨some 55, none, .mov (.tmp 1)⟩,
  ⟨some 56, none, .mov (.tmp 8)⟩,
  ⟨some 57, none, .bin .add (.int .i64) (.tmp 55) (.tmp 56)⟩,
  ⟨some 58, none, .bin .add (.int .i64) (.tmp 57) (.const (.int .i64 1))⟩,
  ⟨some 4, none, .mov (.tmp 54)⟩,
  ⟨some 5, none, .mov (.tmp 58)⟩,
  ⟨some 6, none, .mov (.const (.int .u8 0))⟩]
def c167l11 : AC := (.seq (.reg [⟨some 23, none, .bin .lss (.int .i64) (.tmp 22) (.tmp 21)⟩]) (.seq (.cond (.tmp 23) .skip (.exit 0)) (.seq (.block 1 (.seq (.reg c167r4) (.seq (.seq (.reg c167r5) (.cond (.tmp 36) (.seq (.reg c167r6) .ret) .skip)) (.seq (.reg c167r7) (.seq (.reg [⟨some 46, none, .mov (.tmp 9)⟩,
    ⟨some 47, none, .bin .lss (.int .u8) (.tmp 46) (.const (.int .u8 128))⟩]) (.cond (.tmp 47) (.seq (.seq (.reg c167r8) (.cond (.tmp 53) (.seq (.reg c167r9) .ret) .skip)) (.seq (.reg c167r10) .ret)) .skip)))))) (.reg [⟨some 59, none, .bin .add (.int .i64) (.tmp 22) (.const (.int .i64 1))⟩,
    ⟨some 22, none, .mov (.tmp 59)⟩]))))
def c167r12 : List AI := [⟨some 4, none, .mov (.const (.int .u64 0))⟩,
  ⟨some 5, none, .mov (.const (.int .i64 0))⟩,
  ⟨some 6, none, .mov (.const (.int .u8 10))⟩]
def c167 : AC := (.seq (.reg c167r0) (.seq (.seq (.reg c167r1) (.cond (.tmp 17) (.seq (.reg c167r2) .ret) .skip)) (.seq (.reg [⟨some 7, none, .mov (.const (.int .u64 0))⟩]) (.seq (.seq (.reg c167r3) (.block 0 (.loop c167l11))) (.seq (.reg c167r12) .ret)))))
theorem t167 : tabFn 167 = some (60, c167, [.tmp 4, .tmp 5, .tmp 6]) := by kernel_rfl
/-- sorites/code.Int -/
def c170r0 : List AI := [⟨some 4, none, .mov (.const (.int .i64 0))⟩,
  ⟨some 5, none, .mov (.const (.int .i64 0))⟩,
  ⟨some 6, none, .mov (.const (.int .u8 0))⟩]
def c170r1 : List AI := [⟨some 11, none, .mov (.tmp 0)⟩,
  ⟨some 12, none, .mov (.tmp 1)⟩,
  ⟨some 13, none, .call (.func 167) [(.tmp 11), (.tmp 12)]⟩,
  ⟨some 10, none, .mov (.tmp 13)⟩,
  ⟨some 14, none, .ext (.tmp 10) 0⟩,
  ⟨some 15, none, .ext (.tmp 10) 1⟩,
  ⟨some 16, none, .ext (.tmp 10) 2⟩,
  ⟨some 7, none, .mov (.tmp 14)⟩,
  ⟨some 8, none, .mov (.tmp 15)⟩,
  ⟨some 9, none, .mov (.tmp 16)⟩]
def c170r2 : List AI := [⟨some 17, none, .mov (.tmp 7)⟩,
  ⟨some 18, none, .bin .shr (.int .u64) (.tmp 17) (.const (.int .u64 1))⟩,
  ⟨some 19, none, .cvi .i64 (.tmp 18)⟩,
  ⟨some 20, none, .mov (.tmp 7)⟩,
  ⟨some 21, none, .bin .and (.int .u64) (.tmp 20) (.const (.int .u64 1))⟩,
  ⟨some 22, none, .cvi .i64 (.tmp 21)⟩,
  ⟨some 23, none, .un .neg (.tmp 22)⟩,
  ⟨some 24, none, .bin .xor (.int .i64) (.tmp 19) (.tmp 23)⟩,
  ⟨some 25, none, .mov (.tmp 8)⟩,
  ⟨some 26, none, .mov (.tmp 9)⟩,
  ⟨some 4, none, .mov (.tmp 24)⟩,
  ⟨some 5, none, .mov (.tmp 25)⟩,
  ⟨some 6, none, .mov (.tmp 26)⟩]
def c170 : AC := (.seq (.reg c170r0) (.seq (.reg c170r1) (.seq (.reg c170r2) .ret)))
theorem t170 : tabFn 170 = some (27, c170, [.tmp 4, .tmp 5, .tmp 6]) := by kernel_rfl
/-- sorites/soriteslaw22.Fine -/
def c12r0 : List AI := [⟨some 5, none, .mov (.tmp 3)⟩,
  ⟨some 6, none, .mov (.tmp 0)⟩,
  ⟨some 7, none, .len false (.tmp 6)⟩,
  ⟨some 8, none, .bin .lss (.int .i64) (.tmp 5) (.tmp 7)⟩]
def c12r1 : List AI := [⟨some 11, none, .mov (.tmp 0)⟩,
  ⟨some 12, none, .mov (.tmp 3)⟩,
  ⟨some 13, none, .iaddr 7 (.tmp 11) (.tmp 12)⟩,
  ⟨some 14, none, .faddr 2 (.tmp 13)⟩,
  ⟨some 15, none, .load true 5 (.tmp 14)⟩,
  ⟨some 4, none, .alloc [.sc (.int .i64 0), .sc (.int .i64 0), .sc (.int .i64 0), .sc (.int .i64 0), .sl true []]⟩,
  ⟨none, none, .store 5 (.tmp 4) (.tmp 15)⟩]
def c12r2 : List AI := [⟨some 16, none, .faddr 4 (.tmp 4)⟩,
  ⟨some 17, none, .load false 1 (.tmp 16)⟩,
  ⟨some 18, none, .call (.func 21) [(.tmp 17), (.const (.int .i64 3)), (.const (.int .i64 8))]⟩,
  ⟨some 19, none, .un .not (.tmp 18)⟩,
  ⟨some 20, none, .mov (.tmp 19)⟩,
  ⟨some 21, some (20, false), .mov (.tmp 0)⟩,
  ⟨some 22, some (20, false), .mov (.tmp 3)⟩,
  ⟨some 23, some (20, false), .iaddr 7 (.tmp 21) (.tmp 22)⟩,
  ⟨some 24, some (20, false), .faddr 1 (.tmp 23)⟩,
  ⟨some 25, some (20, false), .load false 1 (.tmp 24)⟩,
  ⟨some 26, some (20, false), .call (.func 29) [(.tmp 25)]⟩,
  ⟨some 27, some (20, false), .un .not (.tmp 26)⟩,
  ⟨some 28, none, .pick (.tmp 20) (.const (.bool true)) (.tmp 27)⟩,
  ⟨some 29, none, .mov (.tmp 28)⟩,
  ⟨some 30, some (29, false), .faddr 0 (.tmp 4)⟩,
  ⟨some 31, some (29, false), .load false 1 (.tmp 30)⟩,
  ⟨some 32, some (29, false), .call (.func 29) [(.tmp 31)]⟩,
  ⟨some 33, some (29, false), .un .not (.tmp 32)⟩,
  ⟨some 34, none, .pick (.tmp 29) (.const (.bool true)) (.tmp 33)⟩,
  ⟨some 35, none, .mov (.tmp 34)⟩,
  ⟨some 36, some (35, false), .faddr 1 (.tmp 4)⟩,
  ⟨some 37, some (35, false), .load false 1 (.tmp 36)⟩,
  ⟨some 38, some (35, false), .call (.func 29) [(.tmp 37)]⟩,
  ⟨some 39, some (35, false), .un .not (.tmp 38)⟩,
  ⟨some 40, none, .pick (.tmp 35) (.const (.bool true)) (.tmp 39)⟩,
  ⟨some 41, none, .mov (.tmp 40)⟩,
  ⟨some 42, some (41, false), .faddr 2 (.tmp 4)⟩,
  ⟨some 43, some (41, false), .load false 1 (.tmp 42)⟩,
  ⟨some 44, some (41, false), .call (.func 29) [(.tmp 43)]⟩,
  ⟨some 45, some (41, false), .un .not (.tmp 44)⟩,
  ⟨some 46, none, .pick (.tmp 41) (.const (.bool true)) (.tmp 45)⟩,
  ⟨some 47, none, .mov (.tmp 46)⟩,
  ⟨some 48, some (47, false), .faddr 3 (.tmp 4)⟩,
  ⟨some 49, some (47, false), .load false 1 (.tmp 48)⟩,
  ⟨some 50, some (47, false), .call (.func 29) [(.tmp 49)]⟩,
  ⟨some 51, some (47, false), .un .not (.tmp 50)⟩,
  ⟨some 52, none, .pick (.tmp 47) (.const (.bool true)) (.tmp 51)⟩]
def c12r3 : List AI := [⟨some 9, none, .mov (.tmp 3)⟩,
  ⟨some 10, none, .bin .add (.int .i64) (.tmp 9) (.const (.int .i64 1))⟩,
  ⟨some 3, none, .mov (.tmp 10)⟩]
def c12l4 : AC := (.seq (.seq (.reg c12r0) (.cond (.tmp 8) .skip (.exit 0))) (.seq (.block 1 (.seq (.reg c12r1) (.seq (.reg c12r2) (.cond (.tmp 52) (.seq (.reg [⟨some 2, none, .mov (.const (.bool false))⟩]) .ret) .skip)))) (.reg c12r3)))
def c12r5 : List AI := [⟨some 53, none, .mov (.tmp 0)⟩,
  ⟨some 54, none, .len false (.tmp 53)⟩,
  ⟨some 55, none, .bin .leq (.int .i64) (.tmp 54) (.const (.int .i64 60))⟩,
  ⟨some 2, none, .mov (.tmp 55)⟩]
def c12 : AC := (.seq (.reg [⟨some 2, none, .mov (.const (.bool false))⟩]) (.seq (.seq (.reg [⟨some 3, none, .mov (.const (.int .i64 0))⟩]) (.block 0 (.loop c12l4))) (.seq (.reg c12r5) .ret)))
theorem t12 : tabFn 12 = some (56, c12, [.tmp 2]) := by kernel_rfl
/-- sorites/soriteslaw11.Fine -/
def c21r0 : List AI := [⟨some 8, none, .mov (.tmp 0)⟩,
  ⟨some 9, none, .len false (.tmp 8)⟩,
  ⟨some 10, none, .mov (.tmp 1)⟩,
  ⟨some 11, none, .bin .gtr (.int .i64) (.tmp 9) (.tmp 10)⟩]
def c21r1 : List AI := [⟨some 12, none, .mov (.tmp 7)⟩,
  ⟨some 13, none, .mov (.tmp 0)⟩,
  ⟨some 14, none, .len false (.tmp 13)⟩,
  ⟨some 15, none, .bin .lss (.int .i64) (.tmp 12) (.tmp 14)⟩]
def c21r2 : List AI := [⟨some 18, none, .mov (.tmp 0)⟩,
  ⟨some 19, none, .mov (.tmp 7)⟩,
  ⟨some 20, none, .iaddr 5 (.tmp 18) (.tmp 19)⟩,
  ⟨some 21, none, .faddr 1 (.tmp 20)⟩,
  ⟨some 22, none, .load true 2 (.tmp 21)⟩,
  ⟨some 23, none, .mov (.tmp 2)⟩,
  ⟨some 24, none, .call (.func 48) [(.tmp 22), (.tmp 23), (.const (.int .i64 8))]⟩,
  ⟨some 25, none, .bin .lss (.int .i64) (.tmp 24) (.const (.int .i64 0))⟩,
  ⟨some 26, none, .mov (.tmp 25)⟩,
  ⟨some 27, some (26, false), .mov (.tmp 0)⟩,
  ⟨some 28, some (26, false), .mov (.tmp 7)⟩,
  ⟨some 29, some (26, false), .iaddr 5 (.tmp 27) (.tmp 28)⟩,
  ⟨some 30, some (26, false), .faddr 3 (.tmp 29)⟩,
  ⟨some 31, some (26, false), .load true 2 (.tmp 30)⟩,
  ⟨some 32, some (26, false), .mov (.tmp 2)⟩,
  ⟨some 33, some (26, false), .call (.func 48) [(.tmp 31), (.tmp 32), (.const (.int .i64 8))]⟩,
  ⟨some 34, some (26, false), .bin .lss (.int .i64) (.tmp 33) (.const (.int .i64 0))⟩,
  ⟨some 35, none, .pick (.tmp 26) (.const (.bool true)) (.tmp 34)⟩]
def c21r3 : List AI := [⟨some 16, none, .mov (.tmp 7)⟩,
  ⟨some 17, none, .bin .add (.int .i64) (.tmp 16) (.const (.int .i64 1))⟩,
  ⟨some 7, none, .mov (.tmp 17)⟩]
def c21l4 : AC := (.seq (.seq (.reg c21r1) (.cond (.tmp 15) .skip (.exit 0))) (.seq (.block 1 (.seq (.reg c21r2) (.cond (.tmp 35) (.seq (.reg [⟨some 6, none, .mov (.const (.bool false))⟩]) .ret) .skip))) (.reg c21r3)))
def c21 : AC := (.seq (.reg [⟨some 6, none, .mov (.const (.bool false))⟩]) (.seq (.seq (.reg c21r0) (.cond (.tmp 11) (.seq (.reg [⟨some 6, none, .mov (.const (.bool false))⟩]) .ret) .skip)) (.seq (.seq (.reg [⟨some 7, none, .mov (.const (.int .i64 0))⟩]) (.block 0 (.loop c21l4))) (.seq (.reg [⟨some 6, none, .mov (.const (.bool true))⟩]) .ret))))
theorem t21 : tabFn 21 = some (36, c21, [.tmp 6]) := by kernel_rfl
/-- sorites/soriteslaw06.Small -/
def c48r0 : List AI := [⟨some 8, none, .mov (.tmp 2)⟩,
  ⟨some 9, none, .bin .lss (.int .i64) (.tmp 8) (.const (.int .i64 0))⟩,
  ⟨some 10, none, .mov (.tmp 9)⟩,
  ⟨some 11, some (10, false), .faddr 0 (.tmp 3)⟩,
  ⟨some 12, some (10, false), .load false 1 (.tmp 11)⟩,
  ⟨some 13, some (10, false), .bin .lss (.int .i64) (.tmp 12) (.const (.int .i64 (-1000)))⟩,
  ⟨some 14, none, .pick (.tmp 10) (.const (.bool true)) (.tmp 13)⟩,
  ⟨some 15, none, .mov (.tmp 14)⟩,
  ⟨some 16, some (15, false), .faddr 0 (.tmp 3)⟩,
  ⟨some 17, some (15, false), .load false 1 (.tmp 16)⟩,
  ⟨some 18, some (15, false), .bin .gtr (.int .i64) (.tmp 17) (.const (.int .i64 1000))⟩,
  ⟨some 19, none, .pick (.tmp 15) (.const (.bool true)) (.tmp 18)⟩,
  ⟨some 20, none, .mov (.tmp 19)⟩,
  ⟨some 21, some (20, false), .faddr 1 (.tmp 3)⟩,
  ⟨some 22, some (20, false), .load false 1 (.tmp 21)⟩,
  ⟨some 23, some (20, false), .len false (.tmp 22)⟩,
  ⟨some 24, some (20, false), .bin .gtr (.int .i64) (.tmp 23) (.const (.int .i64 20))⟩,
  ⟨some 25, none, .pick (.tmp 20) (.const (.bool true)) (.tmp 24)⟩]
def c48r1 : List AI := [⟨some 26, none, .mov (.tmp 1)⟩,
  ⟨some 27, none, .bin .sub (.int .i64) (.tmp 26) (.const (.int .i64 1))⟩,
  ⟨some 1, none, .mov (.tmp 27)⟩]
def c48r2 : List AI := [⟨some 28, none, .mov (.tmp 7)⟩,
  ⟨some 29, none, .faddr 1 (.tmp 3)⟩,
  ⟨some 30, none, .load false 1 (.tmp 29)⟩,
  ⟨some 31, none, .len false (.tmp 30)⟩,
  ⟨some 32, none, .bin .lss (.int .i64) (.tmp 28) (.tmp 31)⟩,
  ⟨some 33, none, .mov (.tmp 32)⟩,
  ⟨some 34, some (33, true), .mov (.tmp 1)⟩,
  ⟨some 35, some (33, true), .bin .geq (.int .i64) (.tmp 34) (.const (.int .i64 0))⟩,
  ⟨some 36, none, .pick (.tmp 33) (.tmp 35) (.const (.bool false))⟩]
def c48r3 : List AI := [⟨some 39, none, .faddr 1 (.tmp 3)⟩,
  ⟨some 40, none, .load false 1 (.tmp 39)⟩,
  ⟨some 41, none, .mov (.tmp 7)⟩,
  ⟨some 42, none, .iaddr 2 (.tmp 40) (.tmp 41)⟩,
  ⟨some 43, none, .load true 2 (.tmp 42)⟩,
  ⟨some 44, none, .mov (.tmp 1)⟩,
  ⟨some 45, none, .mov (.tmp 2)⟩,
  ⟨some 46, none, .bin .sub (.int .i64) (.tmp 45) (.const (.int .i64 1))⟩,
  ⟨some 47, none, .call (.func 48) [(.tmp 43), (.tmp 44), (.tmp 46)]⟩,
  ⟨some 1, none, .mov (.tmp 47)⟩]
def c48r4 : List AI := [⟨some 37, none, .mov (.tmp 7)⟩,
  ⟨some 38, none, .bin .add (.int .i64) (.tmp 37) (.const (.int .i64 1))⟩,
  ⟨some 7, none, .mov (.tmp 38)⟩]
def c48l5 : AC := (.seq (.seq (.reg c48r2) (.cond (.tmp 36) .skip (.exit 0))) (.seq (.block 1 (.reg c48r3)) (.reg c48r4)))
def c48 : AC := (.seq (.reg [⟨some 3, none, .box (.tmp 0)⟩,
    ⟨some 6, none, .mov (.const (.int .i64 0))⟩]) (.seq (.seq (.reg c48r0) (.cond (.tmp 25) (.seq (.reg [⟨some 6, none, .mov (.const (.int .i64 (-1)))⟩]) .ret) .skip)) (.seq (.reg c48r1) (.seq (.seq (.reg [⟨some 7, none, .mov (.const (.int .i64 0))⟩]) (.block 0 (.loop c48l5))) (.seq (.reg [⟨some 48, none, .mov (.tmp 1)⟩,
    ⟨some 6, none, .mov (.tmp 48)⟩]) .ret)))))
theorem t48 : tabFn 48 = some (49, c48, [.tmp 6]) := by kernel_rfl
/-- sorites/soriteslaw22.small -/
def c29r0 : List AI := [⟨some 3, none, .mov (.tmp 0)⟩,
  ⟨some 4, none, .bin .geq (.int .i64) (.tmp 3) (.const (.int .i64 (-2147483648)))⟩,
  ⟨some 5, none, .mov (.tmp 4)⟩,
  ⟨some 6, some (5, true), .mov (.tmp 0)⟩,
  ⟨some 7, some (5, true), .bin .lss (.int .i64) (.tmp 6) (.const (.int .i64 2147483648))⟩,
  ⟨some 8, none, .pick (.tmp 5) (.tmp 7) (.const (.bool false))⟩,
  ⟨some 2, none, .mov (.tmp 8)⟩]
def c29 : AC := (.seq (.reg [⟨some 2, none, .mov (.const (.bool false))⟩]) (.seq (.reg c29r0) .ret))
theorem t29 : tabFn 29 = some (9, c29, [.tmp 2]) := by kernel_rfl
/-- sorites/soriteslaw24.nodes -/
def c13r0 : List AI := [⟨some 5, none, .mov (.tmp 4)⟩,
  ⟨some 6, none, .mov (.tmp 0)⟩,
  ⟨some 7, none, .len false (.tmp 6)⟩,
  ⟨some 8, none, .bin .lss (.int .i64) (.tmp 5) (.tmp 7)⟩]
def c13d1 : List DI := [⟨⟨some 11, none, .mov (.tmp 3)⟩, 0, 0, 0⟩,
  ⟨⟨some 12, none, .mov (.tmp 0)⟩, 0, 0, 0⟩,
  ⟨⟨some 13, none, .mov (.tmp 4)⟩, 0, 0, 0⟩,
  ⟨⟨some 14, none, .iaddr 5 (.tmp 12) (.tmp 13)⟩, 0, 0, 0⟩,
  ⟨⟨some 15, none, .faddr 0 (.tmp 14)⟩, 0, 0, 0⟩,
  ⟨⟨some 16, none, .load false 1 (.tmp 15)⟩, 1, 0, 1⟩,
  ⟨⟨some 17, none, .mov (.tmp 0)⟩, 0, 0, 0⟩,
  ⟨⟨some 18, none, .mov (.tmp 4)⟩, 0, 0, 0⟩,
  ⟨⟨some 19, none, .iaddr 5 (.tmp 17) (.tmp 18)⟩, 0, 0, 0⟩,
  ⟨⟨some 20, none, .faddr 1 (.tmp 19)⟩, 0, 0, 0⟩,
  ⟨⟨some 21, none, .load false 1 (.tmp 20)⟩, 1, 0, 1⟩,
  ⟨⟨some 22, none, .mov (.tmp 0)⟩, 0, 0, 0⟩,
  ⟨⟨some 23, none, .mov (.tmp 4)⟩, 0, 0, 0⟩,
  ⟨⟨some 24, none, .iaddr 5 (.tmp 22) (.tmp 23)⟩, 0, 0, 0⟩,
  ⟨⟨some 25, none, .faddr 2 (.tmp 24)⟩, 0, 0, 0⟩,
  ⟨⟨some 26, none, .load false 1 (.tmp 25)⟩, 1, 0, 1⟩,
  ⟨⟨some 27, none, .mov (.tmp 0)⟩, 0, 0, 0⟩,
  ⟨⟨some 28, none, .mov (.tmp 4)⟩, 0, 0, 0⟩,
  ⟨⟨some 29, none, .iaddr 5 (.tmp 27) (.tmp 28)⟩, 0, 0, 0⟩,
  ⟨⟨some 30, none, .faddr 3 (.tmp 29)⟩, 0, 0, 0⟩,
  ⟨⟨some 31, none, .load false 1 (.tmp 30)⟩, 1, 0, 1⟩,
  ⟨⟨some 32, none, .mov (.tmp 0)⟩, 0, 0, 0⟩,
  ⟨⟨some 33, none, .mov (.tmp 4)⟩, 0, 0, 0⟩,
  ⟨⟨some 34, none, .iaddr 5 (.tmp 32) (.tmp 33)⟩, 0, 0, 0⟩,
  ⟨⟨some 35, none, .faddr 4 (.tmp 34)⟩, 0, 0, 0⟩,
  ⟨⟨some 36, none, .load false 1 (.tmp 35)⟩, 1, 0, 0⟩,
  ⟨⟨some 37, none, .call (.func 30) [(.tmp 36)]⟩, 2, 0, 0⟩,
  ⟨⟨some 38, none, .build [.sc (.int .i64 0), .sc (.int .i64 0), .sc (.int .i64 0), .sc (.int .i64 0), .sl true []] [(0, 1, (.tmp 16)), (1, 1, (.tmp 21)), (2, 1, (.tmp 26)), (3, 1, (.tmp 31)), (4, 1, (.tmp 37))]⟩, 0, 0, 0⟩,
  ⟨⟨some 39, none, .mksl 38 5 [(.tmp 38)]⟩, 0, 0, 0⟩,
  ⟨⟨some 40, none, .app 38 5 56 (.tmp 11) (.tmp 39)⟩, 2, 0, 0⟩,
  ⟨⟨some 3, none, .mov (.tmp 40)⟩, 0, 0, 0⟩]
def c13r2 : List AI := [⟨some 9, none, .mov (.tmp 4)⟩,
  ⟨some 10, none, .bin .add (.int .i64) (.tmp 9) (.const (.int .i64 1))⟩,
  ⟨some 4, none, .mov (.tmp 10)⟩]
def c13l3 : AC := (.seq (.seq (.reg c13r0) (.cond (.tmp 8) .skip (.exit 0))) (.seq (.block 1 (.draw c13d1)) (.reg c13r2)))
def c13 : AC := (.seq (.reg [⟨some 2, none, .mov (.const (.slice none 0 0))⟩]) (.seq (.reg [⟨some 3, none, .mov (.const (.slice none 0 0))⟩]) (.seq (.seq (.reg [⟨some 4, none, .mov (.const (.int .i64 0))⟩]) (.block 0 (.loop c13l3))) (.seq (.reg [⟨some 41, none, .mov (.tmp 3)⟩,
    ⟨some 2, none, .mov (.tmp 41)⟩]) .ret))))
theorem t13 : tabFn 13 = some (42, c13, [.tmp 2]) := by kernel_rfl
/-- sorites/soriteslaw11.Of -/
def c30r0 : List AI := [⟨some 5, none, .mov (.tmp 4)⟩,
  ⟨some 6, none, .mov (.tmp 0)⟩,
  ⟨some 7, none, .len false (.tmp 6)⟩,
  ⟨some 8, none, .bin .lss (.int .i64) (.tmp 5) (.tmp 7)⟩]
def c30d1 : List DI := [⟨⟨some 11, none, .mov (.tmp 3)⟩, 0, 0, 0⟩,
  ⟨⟨some 12, none, .mov (.tmp 0)⟩, 0, 0, 0⟩,
  ⟨⟨some 13, none, .mov (.tmp 4)⟩, 0, 0, 0⟩,
  ⟨⟨some 14, none, .iaddr 5 (.tmp 12) (.tmp 13)⟩, 0, 0, 0⟩,
  ⟨⟨some 15, none, .faddr 0 (.tmp 14)⟩, 0, 0, 0⟩,
  ⟨⟨some 16, none, .load false 1 (.tmp 15)⟩, 1, 0, 2⟩,
  ⟨⟨some 17, none, .mov (.tmp 0)⟩, 0, 0, 0⟩,
  ⟨⟨some 18, none, .mov (.tmp 4)⟩, 0, 0, 0⟩,
  ⟨⟨some 19, none, .iaddr 5 (.tmp 17) (.tmp 18)⟩, 0, 0, 0⟩,
  ⟨⟨some 20, none, .faddr 1 (.tmp 19)⟩, 0, 0, 0⟩,
  ⟨⟨some 21, none, .load true 2 (.tmp 20)⟩, 1, 0, 0⟩,
  ⟨⟨some 22, none, .call (.func 62) [(.tmp 21)]⟩, 2, 0, 0⟩,
  ⟨⟨some 23, none, .mov (.tmp 0)⟩, 0, 0, 0⟩,
  ⟨⟨some 24, none, .mov (.tmp 4)⟩, 0, 0, 0⟩,
  ⟨⟨some 25, none, .iaddr 5 (.tmp 23) (.tmp 24)⟩, 0, 0, 0⟩,
  ⟨⟨some 26, none, .faddr 3 (.tmp 25)⟩, 0, 0, 0⟩,
  ⟨⟨some 27, none, .load true 2 (.tmp 26)⟩, 1, 1, 0⟩,
  ⟨⟨some 28, none, .call (.func 62) [(.tmp 27)]⟩, 2, 0, 0⟩,
  ⟨⟨some 29, none, .build [.sc (.bool false), .sc (.int .i64 0), .sl true [], .sc (.int .i64 0), .sl true []] [(0, 1, (.tmp 16)), (1, 2, (.tmp 22)), (3, 2, (.tmp 28))]⟩, 0, 0, 0⟩,
  ⟨⟨some 30, none, .mksl 90 5 [(.tmp 29)]⟩, 0, 0, 0⟩,
  ⟨⟨some 31, none, .app 90 5 72 (.tmp 11) (.tmp 30)⟩, 2, 0, 0⟩,
  ⟨⟨some 3, none, .mov (.tmp 31)⟩, 0, 0, 0⟩]
def c30r2 : List AI := [⟨some 9, none, .mov (.tmp 4)⟩,
  ⟨some 10, none, .bin .add (.int .i64) (.tmp 9) (.const (.int .i64 1))⟩,
  ⟨some 4, none, .mov (.tmp 10)⟩]
def c30l3 : AC := (.seq (.seq (.reg c30r0) (.cond (.tmp 8) .skip (.exit 0))) (.seq (.block 1 (.draw c30d1)) (.reg c30r2)))
def c30 : AC := (.seq (.reg [⟨some 2, none, .mov (.const (.slice none 0 0))⟩]) (.seq (.reg [⟨some 3, none, .mov (.const (.slice none 0 0))⟩]) (.seq (.seq (.reg [⟨some 4, none, .mov (.const (.int .i64 0))⟩]) (.block 0 (.loop c30l3))) (.seq (.reg [⟨some 32, none, .mov (.tmp 3)⟩,
    ⟨some 2, none, .mov (.tmp 32)⟩]) .ret))))
theorem t30 : tabFn 30 = some (33, c30, [.tmp 2]) := by kernel_rfl
/-- sorites/soriteslaw06.Of -/
def c62r0 : List AI := [⟨some 5, none, .faddr 0 (.tmp 1)⟩,
  ⟨some 6, none, .load false 1 (.tmp 5)⟩,
  ⟨some 7, none, .build [.sc (.int .i64 0), .sl true []] [(0, 1, (.tmp 6))]⟩,
  ⟨some 3, none, .alloc [.sc (.int .i64 0), .sl true []]⟩,
  ⟨none, none, .store 2 (.tmp 3) (.tmp 7)⟩]
def c62r1 : List AI := [⟨some 8, none, .mov (.tmp 4)⟩,
  ⟨some 9, none, .faddr 1 (.tmp 1)⟩,
  ⟨some 10, none, .load false 1 (.tmp 9)⟩,
  ⟨some 11, none, .len false (.tmp 10)⟩,
  ⟨some 12, none, .bin .lss (.int .i64) (.tmp 8) (.tmp 11)⟩]
def c62d2 : List DI := [⟨⟨some 15, none, .faddr 1 (.tmp 3)⟩, 0, 0, 0⟩,
  ⟨⟨some 16, none, .load false 1 (.tmp 15)⟩, 1, 0, 1⟩,
  ⟨⟨some 17, none, .faddr 1 (.tmp 1)⟩, 0, 0, 0⟩,
  ⟨⟨some 18, none, .load false 1 (.tmp 17)⟩, 1, 0, 0⟩,
  ⟨⟨some 19, none, .mov (.tmp 4)⟩, 0, 0, 0⟩,
  ⟨⟨some 20, none, .iaddr 2 (.tmp 18) (.tmp 19)⟩, 0, 0, 0⟩,
  ⟨⟨some 21, none, .load true 2 (.tmp 20)⟩, 1, 0, 0⟩,
  ⟨⟨some 22, none, .call (.func 62) [(.tmp 21)]⟩, 2, 0, 0⟩,
  ⟨⟨some 23, none, .mksl 88 2 [(.tmp 22)]⟩, 0, 0, 0⟩,
  ⟨⟨some 24, none, .app 88 2 32 (.tmp 16) (.tmp 23)⟩, 2, 0, 0⟩,
  ⟨⟨some 25, none, .faddr 1 (.tmp 3)⟩, 0, 0, 0⟩,
  ⟨⟨none, none, .store 1 (.tmp 25) (.tmp 24)⟩, 2, 0, 0⟩]
def c62r3 : List AI := [⟨some 13, none, .mov (.tmp 4)⟩,
  ⟨some 14, none, .bin .add (.int .i64) (.tmp 13) (.const (.int .i64 1))⟩,
  ⟨some 4, none, .mov (.tmp 14)⟩]
def c62l4 : AC := (.seq (.seq (.reg c62r1) (.cond (.tmp 12) .skip (.exit 0))) (.seq (.block 1 (.draw c62d2)) (.reg c62r3)))
def c62 : AC := (.seq (.reg [⟨some 1, none, .box (.tmp 0)⟩,
    ⟨some 2, none, .alloc [.sc (.int .i64 0), .sl true []]⟩]) (.seq (.reg c62r0) (.seq (.seq (.reg [⟨some 4, none, .mov (.const (.int .i64 0))⟩]) (.block 0 (.loop c62l4))) (.seq (.reg [⟨some 26, none, .load true 2 (.tmp 3)⟩,
    ⟨none, none, .store 2 (.tmp 2) (.tmp 26)⟩]) .ret))))
theorem t62 : tabFn 62 = some (27, c62, [.cell 2 true 2]) := by kernel_rfl
/-- sorites/proof.Put -/
def c14r0 : List AI := [⟨some 6, none, .mov (.tmp 0)⟩,
  ⟨some 7, none, .len false (.tmp 6)⟩,
  ⟨some 8, none, .mov (.const (.int .i64 0))⟩]
def c14r1 : List AI := [⟨some 10, none, .iaddr 5 (.tmp 6) (.tmp 8)⟩,
  ⟨some 11, none, .load true 5 (.tmp 10)⟩,
  ⟨some 5, none, .alloc [.sc (.int .i64 0), .sc (.int .i64 0), .sc (.int .i64 0), .sc (.int .i64 0), .sl true []]⟩,
  ⟨none, none, .store 5 (.tmp 5) (.tmp 11)⟩]
def c14r2 : List AI := [⟨some 12, none, .mov (.tmp 3)⟩,
  ⟨some 13, none, .load true 5 (.tmp 5)⟩,
  ⟨some 14, none, .build [.sc (.int .i64 0), .sc (.int .i64 0), .sc (.int .i64 0), .sc (.int .i64 0), .sc (.int .i64 0), .sc (.int .i64 0), .sl true []] [(0, 1, (.const (.int .i64 0))), (2, 5, (.tmp 13))]⟩,
  ⟨some 15, none, .mksl 95 7 [(.tmp 14)]⟩,
  ⟨some 16, none, .app 95 7 72 (.tmp 12) (.tmp 15)⟩,
  ⟨some 3, none, .mov (.tmp 16)⟩]
def c14l3 : AC := (.seq (.reg [⟨some 9, none, .bin .lss (.int .i64) (.tmp 8) (.tmp 7)⟩]) (.seq (.cond (.tmp 9) .skip (.exit 0)) (.seq (.block 1 (.seq (.reg c14r1) (.reg c14r2))) (.reg [⟨some 17, none, .bin .add (.int .i64) (.tmp 8) (.const (.int .i64 1))⟩,
    ⟨some 8, none, .mov (.tmp 17)⟩]))))
def c14r4 : List AI := [⟨some 18, none, .mov (.tmp 3)⟩,
  ⟨some 19, none, .call (.func 31) [(.const (.slice none 0 0)), (.tmp 18)]⟩,
  ⟨some 2, none, .mov (.tmp 19)⟩]
def c14 : AC := (.seq (.reg [⟨some 2, none, .mov (.const (.slice none 0 0))⟩]) (.seq (.reg [⟨some 3, none, .mov (.const (.slice none 0 0))⟩]) (.seq (.seq (.reg c14r0) (.block 0 (.loop c14l3))) (.seq (.reg c14r4) .ret))))
theorem t14 : tabFn 14 = some (20, c14, [.tmp 2]) := by kernel_rfl
/-- sorites/state.PutEvents -/
def c31r0 : List AI := [⟨some 7, none, .mov (.tmp 0)⟩,
  ⟨some 8, none, .mov (.tmp 1)⟩,
  ⟨some 9, none, .len false (.tmp 8)⟩,
  ⟨some 10, none, .cvi .u64 (.tmp 9)⟩,
  ⟨some 11, none, .call (.func 63) [(.tmp 7), (.tmp 10)]⟩,
  ⟨some 0, none, .mov (.tmp 11)⟩]
def c31r1 : List AI := [⟨some 12, none, .mov (.tmp 1)⟩,
  ⟨some 13, none, .len false (.tmp 12)⟩,
  ⟨some 14, none, .mov (.const (.int .i64 0))⟩]
def c31r2 : List AI := [⟨some 16, none, .iaddr 7 (.tmp 12) (.tmp 14)⟩,
  ⟨some 17, none, .load true 7 (.tmp 16)⟩,
  ⟨some 6, none, .alloc [.sc (.int .i64 0), .sc (.int .i64 0), .sc (.int .i64 0), .sc (.int .i64 0), .sc (.int .i64 0), .sc (.int .i64 0), .sl true []]⟩,
  ⟨none, none, .store 7 (.tmp 6) (.tmp 17)⟩]
def c31r3 : List AI := [⟨some 18, none, .mov (.tmp 0)⟩,
  ⟨some 19, none, .faddr 0 (.tmp 6)⟩,
  ⟨some 20, none, .load false 1 (.tmp 19)⟩,
  ⟨some 21, none, .cvi .u64 (.tmp 20)⟩,
  ⟨some 22, none, .call (.func 63) [(.tmp 18), (.tmp 21)]⟩,
  ⟨some 0, none, .mov (.tmp 22)⟩]
def c31r4 : List AI := [⟨some 24, none, .faddr 0 (.tmp 6)⟩,
  ⟨some 25, none, .load false 1 (.tmp 24)⟩,
  ⟨some 26, none, .bin .eql (.int .i64) (.tmp 25) (.const (.int .i64 0))⟩,
  ⟨some 23, none, .mov (.tmp 26)⟩]
def c31r5 : List AI := [⟨some 27, none, .mov (.tmp 0)⟩,
  ⟨some 28, none, .faddr 2 (.tmp 6)⟩,
  ⟨some 29, none, .load true 5 (.tmp 28)⟩,
  ⟨some 30, none, .call (.func 64) [(.tmp 27), (.tmp 29)]⟩,
  ⟨some 0, none, .mov (.tmp 30)⟩]
def c31r6 : List AI := [⟨some 32, none, .faddr 0 (.tmp 6)⟩,
  ⟨some 33, none, .load false 1 (.tmp 32)⟩,
  ⟨some 34, none, .call (.func 65) [(.tmp 33)]⟩,
  ⟨some 35, none, .un .not (.tmp 34)⟩,
  ⟨some 31, none, .mov (.tmp 35)⟩]
def c31r7 : List AI := [⟨some 36, none, .mov (.tmp 0)⟩,
  ⟨some 37, none, .faddr 1 (.tmp 6)⟩,
  ⟨some 38, none, .load false 1 (.tmp 37)⟩,
  ⟨some 39, none, .call (.func 66) [(.tmp 36), (.tmp 38)]⟩,
  ⟨some 0, none, .mov (.tmp 39)⟩]
def c31l8 : AC := (.seq (.reg [⟨some 15, none, .bin .lss (.int .i64) (.tmp 14) (.tmp 13)⟩]) (.seq (.cond (.tmp 15) .skip (.exit 0)) (.seq (.block 1 (.seq (.reg c31r2) (.seq (.reg c31r3) (.block 2 (.seq (.reg c31r4) (.cond (.tmp 23) (.reg c31r5) (.seq (.reg c31r6) (.cond (.tmp 31) (.reg c31r7) .skip)))))))) (.reg [⟨some 40, none, .bin .add (.int .i64) (.tmp 14) (.const (.int .i64 1))⟩,
    ⟨some 14, none, .mov (.tmp 40)⟩]))))
def c31 : AC := (.seq (.reg [⟨some 4, none, .mov (.const (.slice none 0 0))⟩]) (.seq (.reg c31r0) (.seq (.seq (.reg c31r1) (.block 0 (.loop c31l8))) (.seq (.reg [⟨some 41, none, .mov (.tmp 0)⟩,
    ⟨some 4, none, .mov (.tmp 41)⟩]) .ret))))
theorem t31 : tabFn 31 = some (42, c31, [.tmp 4]) := by kernel_rfl
/-- sorites/state.putNode -/
def c64r0 : List AI := [⟨some 7, none, .faddr 0 (.tmp 3)⟩,
  ⟨some 8, none, .load false 1 (.tmp 7)⟩,
  ⟨some 9, none, .faddr 1 (.tmp 3)⟩,
  ⟨some 10, none, .load false 1 (.tmp 9)⟩,
  ⟨some 11, none, .faddr 2 (.tmp 3)⟩,
  ⟨some 12, none, .load false 1 (.tmp 11)⟩,
  ⟨some 13, none, .faddr 3 (.tmp 3)⟩,
  ⟨some 14, none, .load false 1 (.tmp 13)⟩,
  ⟨some 15, none, .mksl 3 1 [(.tmp 8), (.tmp 10), (.tmp 12), (.tmp 14)]⟩,
  ⟨some 16, none, .len false (.tmp 15)⟩,
  ⟨some 17, none, .mov (.const (.int .i64 0))⟩]
def c64r1 : List AI := [⟨some 19, none, .iaddr 1 (.tmp 15) (.tmp 17)⟩,
  ⟨some 20, none, .load false 1 (.tmp 19)⟩,
  ⟨some 6, none, .mov (.tmp 20)⟩]
def c64r2 : List AI := [⟨some 21, none, .mov (.tmp 0)⟩,
  ⟨some 22, none, .mov (.tmp 6)⟩,
  ⟨some 23, none, .call (.func 66) [(.tmp 21), (.tmp 22)]⟩,
  ⟨some 0, none, .mov (.tmp 23)⟩]
def c64l3 : AC := (.seq (.reg [⟨some 18, none, .bin .lss (.int .i64) (.tmp 17) (.tmp 16)⟩]) (.seq (.cond (.tmp 18) .skip (.exit 0)) (.seq (.block 1 (.seq (.reg c64r1) (.reg c64r2))) (.reg [⟨some 24, none, .bin .add (.int .i64) (.tmp 17) (.const (.int .i64 1))⟩,
    ⟨some 17, none, .mov (.tmp 24)⟩]))))
def c64r4 : List AI := [⟨some 25, none, .mov (.tmp 0)⟩,
  ⟨some 26, none, .faddr 4 (.tmp 3)⟩,
  ⟨some 27, none, .load false 1 (.tmp 26)⟩,
  ⟨some 28, none, .call (.func 114) [(.tmp 25), (.tmp 27)]⟩,
  ⟨some 4, none, .mov (.tmp 28)⟩]
def c64 : AC := (.seq (.reg [⟨some 3, none, .box (.tmp 1)⟩,
    ⟨some 4, none, .mov (.const (.slice none 0 0))⟩]) (.seq (.seq (.reg c64r0) (.block 0 (.loop c64l3))) (.seq (.reg c64r4) .ret)))
theorem t64 : tabFn 64 = some (29, c64, [.tmp 4]) := by kernel_rfl
/-- sorites/state.bare -/
def c65r0 : List AI := [⟨some 3, none, .mov (.tmp 0)⟩,
  ⟨some 4, none, .bin .eql (.int .i64) (.tmp 3) (.const (.int .i64 5))⟩,
  ⟨some 5, none, .mov (.tmp 4)⟩,
  ⟨some 6, some (5, false), .mov (.tmp 0)⟩,
  ⟨some 7, some (5, false), .bin .eql (.int .i64) (.tmp 6) (.const (.int .i64 7))⟩,
  ⟨some 8, none, .pick (.tmp 5) (.const (.bool true)) (.tmp 7)⟩,
  ⟨some 2, none, .mov (.tmp 8)⟩]
def c65 : AC := (.seq (.reg [⟨some 2, none, .mov (.const (.bool false))⟩]) (.seq (.reg c65r0) .ret))
theorem t65 : tabFn 65 = some (9, c65, [.tmp 2]) := by kernel_rfl
/-- sorites/clause.Put -/
def c114r0 : List AI := [⟨some 7, none, .mov (.tmp 0)⟩,
  ⟨some 8, none, .mov (.tmp 1)⟩,
  ⟨some 9, none, .len false (.tmp 8)⟩,
  ⟨some 10, none, .cvi .u64 (.tmp 9)⟩,
  ⟨some 11, none, .call (.func 63) [(.tmp 7), (.tmp 10)]⟩,
  ⟨some 0, none, .mov (.tmp 11)⟩]
def c114r1 : List AI := [⟨some 12, none, .mov (.tmp 1)⟩,
  ⟨some 13, none, .len false (.tmp 12)⟩,
  ⟨some 14, none, .mov (.const (.int .i64 0))⟩]
def c114r2 : List AI := [⟨some 16, none, .iaddr 5 (.tmp 12) (.tmp 14)⟩,
  ⟨some 17, none, .load true 5 (.tmp 16)⟩,
  ⟨some 6, none, .alloc [.sc (.bool false), .sc (.int .i64 0), .sl true [], .sc (.int .i64 0), .sl true []]⟩,
  ⟨none, none, .store 5 (.tmp 6) (.tmp 17)⟩]
def c114r3 : List AI := [⟨some 18, none, .mov (.tmp 0)⟩,
  ⟨some 19, none, .faddr 0 (.tmp 6)⟩,
  ⟨some 20, none, .load false 1 (.tmp 19)⟩,
  ⟨some 21, none, .call (.func 130) [(.tmp 20)]⟩,
  ⟨some 22, none, .cvi .u64 (.tmp 21)⟩,
  ⟨some 23, none, .call (.func 63) [(.tmp 18), (.tmp 22)]⟩,
  ⟨some 0, none, .mov (.tmp 23)⟩]
def c114d4 : List DI := [⟨⟨some 24, none, .mov (.tmp 0)⟩, 0, 0, 0⟩,
  ⟨⟨some 25, none, .faddr 1 (.tmp 6)⟩, 0, 0, 0⟩,
  ⟨⟨some 26, none, .load true 2 (.tmp 25)⟩, 1, 0, 0⟩,
  ⟨⟨some 27, none, .call (.func 166) [(.tmp 24), (.tmp 26)]⟩, 2, 0, 0⟩,
  ⟨⟨some 28, none, .faddr 3 (.tmp 6)⟩, 0, 0, 0⟩,
  ⟨⟨some 29, none, .load true 2 (.tmp 28)⟩, 1, 1, 0⟩,
  ⟨⟨some 30, none, .call (.func 166) [(.tmp 27), (.tmp 29)]⟩, 2, 0, 0⟩,
  ⟨⟨some 0, none, .mov (.tmp 30)⟩, 0, 0, 0⟩]
def c114l5 : AC := (.seq (.reg [⟨some 15, none, .bin .lss (.int .i64) (.tmp 14) (.tmp 13)⟩]) (.seq (.cond (.tmp 15) .skip (.exit 0)) (.seq (.block 1 (.seq (.reg c114r2) (.seq (.reg c114r3) (.draw c114d4)))) (.reg [⟨some 31, none, .bin .add (.int .i64) (.tmp 14) (.const (.int .i64 1))⟩,
    ⟨some 14, none, .mov (.tmp 31)⟩]))))
def c114 : AC := (.seq (.reg [⟨some 4, none, .mov (.const (.slice none 0 0))⟩]) (.seq (.reg c114r0) (.seq (.seq (.reg c114r1) (.block 0 (.loop c114l5))) (.seq (.reg [⟨some 32, none, .mov (.tmp 0)⟩,
    ⟨some 4, none, .mov (.tmp 32)⟩]) .ret))))
theorem t114 : tabFn 114 = some (33, c114, [.tmp 4]) := by kernel_rfl
/-- sorites/clause.sign -/
def c130 : AC := (.seq (.reg [⟨some 2, none, .mov (.const (.int .i64 0))⟩]) (.seq (.seq (.reg [⟨some 3, none, .mov (.tmp 0)⟩]) (.cond (.tmp 3) (.seq (.reg [⟨some 2, none, .mov (.const (.int .i64 1))⟩]) .ret) .skip)) (.seq (.reg [⟨some 2, none, .mov (.const (.int .i64 0))⟩]) .ret)))
theorem t130 : tabFn 130 = some (4, c130, [.tmp 2]) := by kernel_rfl
/-- sorites/clause.putTerm -/
def c166r0 : List AI := [⟨some 7, none, .mov (.tmp 0)⟩,
  ⟨some 8, none, .faddr 0 (.tmp 3)⟩,
  ⟨some 9, none, .load false 1 (.tmp 8)⟩,
  ⟨some 10, none, .call (.func 66) [(.tmp 7), (.tmp 9)]⟩,
  ⟨some 0, none, .mov (.tmp 10)⟩]
def c166r1 : List AI := [⟨some 11, none, .faddr 0 (.tmp 3)⟩,
  ⟨some 12, none, .load false 1 (.tmp 11)⟩,
  ⟨some 13, none, .bin .lss (.int .i64) (.tmp 12) (.const (.int .i64 0))⟩]
def c166r2 : List AI := [⟨some 15, none, .mov (.tmp 0)⟩,
  ⟨some 16, none, .faddr 1 (.tmp 3)⟩,
  ⟨some 17, none, .load false 1 (.tmp 16)⟩,
  ⟨some 18, none, .len false (.tmp 17)⟩,
  ⟨some 19, none, .cvi .u64 (.tmp 18)⟩,
  ⟨some 20, none, .call (.func 63) [(.tmp 15), (.tmp 19)]⟩,
  ⟨some 0, none, .mov (.tmp 20)⟩]
def c166r3 : List AI := [⟨some 21, none, .faddr 1 (.tmp 3)⟩,
  ⟨some 22, none, .load false 1 (.tmp 21)⟩,
  ⟨some 23, none, .len false (.tmp 22)⟩,
  ⟨some 24, none, .mov (.const (.int .i64 0))⟩]
def c166r4 : List AI := [⟨some 26, none, .iaddr 2 (.tmp 22) (.tmp 24)⟩,
  ⟨some 27, none, .load true 2 (.tmp 26)⟩,
  ⟨some 6, none, .alloc [.sc (.int .i64 0), .sl true []]⟩,
  ⟨none, none, .store 2 (.tmp 6) (.tmp 27)⟩]
def c166r5 : List AI := [⟨some 28, none, .mov (.tmp 0)⟩,
  ⟨some 29, none, .load true 2 (.tmp 6)⟩,
  ⟨some 30, none, .call (.func 166) [(.tmp 28), (.tmp 29)]⟩,
  ⟨some 0, none, .mov (.tmp 30)⟩]
def c166l6 : AC := (.seq (.reg [⟨some 25, none, .bin .lss (.int .i64) (.tmp 24) (.tmp 23)⟩]) (.seq (.cond (.tmp 25) .skip (.exit 0)) (.seq (.block 1 (.seq (.reg c166r4) (.reg c166r5))) (.reg [⟨some 31, none, .bin .add (.int .i64) (.tmp 24) (.const (.int .i64 1))⟩,
    ⟨some 24, none, .mov (.tmp 31)⟩]))))
def c166 : AC := (.seq (.reg [⟨some 3, none, .box (.tmp 1)⟩,
    ⟨some 4, none, .mov (.const (.slice none 0 0))⟩]) (.seq (.reg c166r0) (.seq (.seq (.reg c166r1) (.cond (.tmp 13) (.seq (.reg [⟨some 14, none, .mov (.tmp 0)⟩,
    ⟨some 4, none, .mov (.tmp 14)⟩]) .ret) .skip)) (.seq (.reg c166r2) (.seq (.seq (.reg c166r3) (.block 0 (.loop c166l6))) (.seq (.reg [⟨some 32, none, .mov (.tmp 0)⟩,
    ⟨some 4, none, .mov (.tmp 32)⟩]) .ret))))))
theorem t166 : tabFn 166 = some (33, c166, [.tmp 4]) := by kernel_rfl
/-- sorites/proof.Get -/
def c15r0 : List AI := [⟨some 10, none, .mov (.tmp 0)⟩,
  ⟨some 11, none, .call (.func 32) [(.tmp 10)]⟩,
  ⟨some 9, none, .mov (.tmp 11)⟩,
  ⟨some 12, none, .ext (.tmp 9) 0⟩,
  ⟨some 13, none, .ext (.tmp 9) 1⟩,
  ⟨some 4, none, .mov (.tmp 12)⟩,
  ⟨some 5, none, .mov (.tmp 13)⟩]
def c15r1 : List AI := [⟨some 16, none, .mov (.tmp 5)⟩,
  ⟨some 2, none, .mov (.const (.slice none 0 0))⟩,
  ⟨some 3, none, .mov (.tmp 16)⟩]
def c15r2 : List AI := [⟨some 17, none, .mov (.tmp 4)⟩,
  ⟨some 18, none, .len false (.tmp 17)⟩,
  ⟨some 19, none, .mov (.const (.int .i64 0))⟩]
def c15r3 : List AI := [⟨some 21, none, .iaddr 7 (.tmp 17) (.tmp 19)⟩,
  ⟨some 22, none, .load true 7 (.tmp 21)⟩,
  ⟨some 8, none, .alloc [.sc (.int .i64 0), .sc (.int .i64 0), .sc (.int .i64 0), .sc (.int .i64 0), .sc (.int .i64 0), .sc (.int .i64 0), .sl true []]⟩,
  ⟨none, none, .store 7 (.tmp 8) (.tmp 22)⟩]
def c15r4 : List AI := [⟨some 23, none, .faddr 0 (.tmp 8)⟩,
  ⟨some 24, none, .load false 1 (.tmp 23)⟩,
  ⟨some 25, none, .bin .neq (.int .i64) (.tmp 24) (.const (.int .i64 0))⟩]
def c15r5 : List AI := [⟨some 26, none, .mov (.tmp 6)⟩,
  ⟨some 27, none, .faddr 2 (.tmp 8)⟩,
  ⟨some 28, none, .load true 5 (.tmp 27)⟩,
  ⟨some 29, none, .mksl 38 5 [(.tmp 28)]⟩,
  ⟨some 30, none, .app 38 5 56 (.tmp 26) (.tmp 29)⟩,
  ⟨some 6, none, .mov (.tmp 30)⟩]
def c15l6 : AC := (.seq (.reg [⟨some 20, none, .bin .lss (.int .i64) (.tmp 19) (.tmp 18)⟩]) (.seq (.cond (.tmp 20) .skip (.exit 0)) (.seq (.block 1 (.seq (.reg c15r3) (.seq (.seq (.reg c15r4) (.cond (.tmp 25) (.seq (.reg [⟨some 2, none, .mov (.const (.slice none 0 0))⟩,
    ⟨some 3, none, .mov (.const (.int .u8 7))⟩]) .ret) .skip)) (.reg c15r5)))) (.reg [⟨some 31, none, .bin .add (.int .i64) (.tmp 19) (.const (.int .i64 1))⟩,
    ⟨some 19, none, .mov (.tmp 31)⟩]))))
def c15r7 : List AI := [⟨some 32, none, .mov (.tmp 6)⟩,
  ⟨some 2, none, .mov (.tmp 32)⟩,
  ⟨some 3, none, .mov (.const (.int .u8 0))⟩]
def c15 : AC := (.seq (.reg [⟨some 2, none, .mov (.const (.slice none 0 0))⟩,
    ⟨some 3, none, .mov (.const (.int .u8 0))⟩]) (.seq (.reg c15r0) (.seq (.seq (.reg [⟨some 14, none, .mov (.tmp 5)⟩,
    ⟨some 15, none, .bin .neq (.int .u8) (.tmp 14) (.const (.int .u8 0))⟩]) (.cond (.tmp 15) (.seq (.reg c15r1) .ret) .skip)) (.seq (.reg [⟨some 6, none, .mov (.const (.slice none 0 0))⟩]) (.seq (.seq (.reg c15r2) (.block 0 (.loop c15l6))) (.seq (.reg c15r7) .ret))))))
theorem t15 : tabFn 15 = some (33, c15, [.tmp 2, .tmp 3]) := by kernel_rfl
/-- sorites/state.Events -/
def c32r0 : List AI := [⟨some 7, none, .mov (.tmp 0)⟩,
  ⟨some 8, none, .build [.sl true [], .sc (.int .i64 0), .sc (.int .u8 0)] [(0, 1, (.tmp 7))]⟩,
  ⟨some 9, none, .box (.tmp 8)⟩,
  ⟨some 4, none, .mov (.tmp 9)⟩]
def c32r1 : List AI := [⟨some 10, none, .mov (.tmp 4)⟩,
  ⟨some 11, none, .mov (.tmp 4)⟩,
  ⟨some 12, none, .mkfn 68 [(.tmp 11)] []⟩,
  ⟨some 13, none, .call (.func 67) [(.tmp 10), (.tmp 12)]⟩,
  ⟨some 5, none, .mov (.tmp 13)⟩]
def c32r2 : List AI := [⟨some 14, none, .mov (.tmp 4)⟩,
  ⟨some 15, none, .call (.func 69) [(.tmp 14)]⟩,
  ⟨some 6, none, .mov (.tmp 15)⟩]
def c32r3 : List AI := [⟨some 18, none, .mov (.tmp 6)⟩,
  ⟨some 2, none, .mov (.const (.slice none 0 0))⟩,
  ⟨some 3, none, .mov (.tmp 18)⟩]
def c32r4 : List AI := [⟨some 19, none, .mov (.tmp 5)⟩,
  ⟨some 2, none, .mov (.tmp 19)⟩,
  ⟨some 3, none, .mov (.const (.int .u8 0))⟩]
def c32 : AC := (.seq (.reg [⟨some 2, none, .mov (.const (.slice none 0 0))⟩,
    ⟨some 3, none, .mov (.const (.int .u8 0))⟩]) (.seq (.reg c32r0) (.seq (.reg c32r1) (.seq (.seq (.reg c32r2) (.seq (.reg [⟨some 16, none, .mov (.tmp 6)⟩,
    ⟨some 17, none, .bin .neq (.int .u8) (.tmp 16) (.const (.int .u8 0))⟩]) (.cond (.tmp 17) (.seq (.reg c32r3) .ret) .skip))) (.seq (.reg c32r4) .ret)))))
theorem t32 : tabFn 32 = some (20, c32, [.tmp 2, .tmp 3]) := by kernel_rfl
/-- sorites/state.list[sorites/state.Event] -/
def c67r0 : List AI := [⟨some 6, none, .mov (.tmp 0)⟩,
  ⟨some 7, none, .call (.func 115) [(.tmp 6), (.const (.int .u64 1048576))]⟩,
  ⟨some 8, none, .mov (.const (.int .i64 0))⟩]
def c67r1 : List AI := [⟨some 10, none, .mov (.tmp 0)⟩,
  ⟨some 11, none, .nilck (.tmp 10)⟩,
  ⟨some 12, none, .faddr 2 (.tmp 11)⟩,
  ⟨some 13, none, .load false 1 (.tmp 12)⟩,
  ⟨some 14, none, .bin .neq (.int .u8) (.tmp 13) (.const (.int .u8 0))⟩]
def c67r2 : List AI := [⟨some 15, none, .mov (.tmp 5)⟩,
  ⟨some 16, none, .mov (.tmp 1)⟩,
  ⟨some 17, none, .call (.tmp 16) []⟩,
  ⟨some 18, none, .mksl 95 7 [(.tmp 17)]⟩,
  ⟨some 19, none, .app 95 7 72 (.tmp 15) (.tmp 18)⟩,
  ⟨some 5, none, .mov (.tmp 19)⟩]
def c67l3 : AC := (.seq (.reg [⟨some 9, none, .bin .lss (.int .i64) (.tmp 8) (.tmp 7)⟩]) (.seq (.cond (.tmp 9) .skip (.exit 0)) (.seq (.block 1 (.seq (.seq (.reg c67r1) (.cond (.tmp 14) (.exit 0) .skip)) (.reg c67r2))) (.reg [⟨some 20, none, .bin .add (.int .i64) (.tmp 8) (.const (.int .i64 1))⟩,
    ⟨some 8, none, .mov (.tmp 20)⟩]))))
def c67 : AC := (.seq (.reg [⟨some 4, none, .mov (.const (.slice none 0 0))⟩]) (.seq (.reg [⟨some 5, none, .mov (.const (.slice none 0 0))⟩]) (.seq (.seq (.reg c67r0) (.block 0 (.loop c67l3))) (.seq (.reg [⟨some 21, none, .mov (.tmp 5)⟩,
    ⟨some 4, none, .mov (.tmp 21)⟩]) .ret))))
theorem t67 : tabFn 67 = some (22, c67, [.tmp 4]) := by kernel_rfl
/-- (*sorites/state.reader).event -/
def c68r0 : List AI := [⟨some 4, none, .mov (.tmp 0)⟩,
  ⟨some 5, none, .call (.func 115) [(.tmp 4), (.const (.int .u64 7))]⟩,
  ⟨some 6, none, .build [.sc (.int .i64 0), .sc (.int .i64 0), .sc (.int .i64 0), .sc (.int .i64 0), .sc (.int .i64 0), .sc (.int .i64 0), .sl true []] [(0, 1, (.tmp 5))]⟩,
  ⟨some 3, none, .alloc [.sc (.int .i64 0), .sc (.int .i64 0), .sc (.int .i64 0), .sc (.int .i64 0), .sc (.int .i64 0), .sc (.int .i64 0), .sl true []]⟩,
  ⟨none, none, .store 7 (.tmp 3) (.tmp 6)⟩]
def c68r1 : List AI := [⟨some 8, none, .mov (.tmp 0)⟩,
  ⟨some 9, none, .nilck (.tmp 8)⟩,
  ⟨some 10, none, .faddr 2 (.tmp 9)⟩,
  ⟨some 11, none, .load false 1 (.tmp 10)⟩,
  ⟨some 12, none, .bin .neq (.int .u8) (.tmp 11) (.const (.int .u8 0))⟩,
  ⟨some 7, none, .mov (.tmp 12)⟩]
def c68r2 : List AI := [⟨some 14, none, .faddr 0 (.tmp 3)⟩,
  ⟨some 15, none, .load false 1 (.tmp 14)⟩,
  ⟨some 16, none, .bin .eql (.int .i64) (.tmp 15) (.const (.int .i64 0))⟩,
  ⟨some 13, none, .mov (.tmp 16)⟩]
def c68r3 : List AI := [⟨some 17, none, .mov (.tmp 0)⟩,
  ⟨some 18, none, .call (.func 116) [(.tmp 17)]⟩,
  ⟨some 19, none, .faddr 2 (.tmp 3)⟩,
  ⟨none, none, .store 5 (.tmp 19) (.tmp 18)⟩]
def c68r4 : List AI := [⟨some 21, none, .faddr 0 (.tmp 3)⟩,
  ⟨some 22, none, .load false 1 (.tmp 21)⟩,
  ⟨some 23, none, .call (.func 65) [(.tmp 22)]⟩,
  ⟨some 24, none, .un .not (.tmp 23)⟩,
  ⟨some 20, none, .mov (.tmp 24)⟩]
def c68r5 : List AI := [⟨some 25, none, .mov (.tmp 0)⟩,
  ⟨some 26, none, .call (.func 117) [(.tmp 25)]⟩,
  ⟨some 27, none, .faddr 1 (.tmp 3)⟩,
  ⟨none, none, .store 1 (.tmp 27) (.tmp 26)⟩]
def c68 : AC := (.seq (.reg [⟨some 2, none, .alloc [.sc (.int .i64 0), .sc (.int .i64 0), .sc (.int .i64 0), .sc (.int .i64 0), .sc (.int .i64 0), .sc (.int .i64 0), .sl true []]⟩]) (.seq (.reg c68r0) (.seq (.block 0 (.seq (.reg c68r1) (.cond (.tmp 7) .skip (.seq (.reg c68r2) (.cond (.tmp 13) (.reg c68r3) (.seq (.reg c68r4) (.cond (.tmp 20) (.reg c68r5) .skip))))))) (.seq (.reg [⟨some 28, none, .load true 7 (.tmp 3)⟩,
    ⟨none, none, .store 7 (.tmp 2) (.tmp 28)⟩]) .ret))))
theorem t68 : tabFn 68 = some (29, c68, [.cell 2 true 7]) := by kernel_rfl
/-- (*sorites/state.reader).end -/
def c69d0 : List DI := [⟨⟨some 3, none, .mov (.tmp 0)⟩, 0, 0, 0⟩,
  ⟨⟨some 4, none, .nilck (.tmp 3)⟩, 0, 0, 0⟩,
  ⟨⟨some 5, none, .faddr 2 (.tmp 4)⟩, 0, 0, 0⟩,
  ⟨⟨some 6, none, .load false 1 (.tmp 5)⟩, 1, 0, 0⟩,
  ⟨⟨some 7, none, .bin .eql (.int .u8) (.tmp 6) (.const (.int .u8 0))⟩, 0, 0, 0⟩,
  ⟨⟨some 8, none, .mov (.tmp 7)⟩, 0, 0, 0⟩,
  ⟨⟨some 9, some (8, true), .mov (.tmp 0)⟩, 0, 0, 0⟩,
  ⟨⟨some 10, some (8, true), .nilck (.tmp 9)⟩, 0, 0, 0⟩,
  ⟨⟨some 11, some (8, true), .faddr 1 (.tmp 10)⟩, 0, 0, 0⟩,
  ⟨⟨some 12, some (8, true), .load false 1 (.tmp 11)⟩, 1, 0, 0⟩,
  ⟨⟨some 13, some (8, true), .mov (.tmp 0)⟩, 0, 0, 0⟩,
  ⟨⟨some 14, some (8, true), .nilck (.tmp 13)⟩, 0, 0, 0⟩,
  ⟨⟨some 15, some (8, true), .faddr 0 (.tmp 14)⟩, 0, 0, 0⟩,
  ⟨⟨some 16, some (8, true), .load false 1 (.tmp 15)⟩, 1, 0, 0⟩,
  ⟨⟨some 17, some (8, true), .len false (.tmp 16)⟩, 1, 0, 0⟩,
  ⟨⟨some 18, some (8, true), .bin .neq (.int .i64) (.tmp 12) (.tmp 17)⟩, 0, 0, 0⟩,
  ⟨⟨some 19, none, .pick (.tmp 8) (.tmp 18) (.const (.bool false))⟩, 0, 0, 0⟩]
def c69r1 : List AI := [⟨some 20, none, .mov (.tmp 0)⟩,
  ⟨some 21, none, .nilck (.tmp 20)⟩,
  ⟨some 22, none, .faddr 2 (.tmp 21)⟩,
  ⟨none, none, .store 1 (.tmp 22) (.const (.int .u8 7))⟩]
def c69r2 : List AI := [⟨some 23, none, .mov (.tmp 0)⟩,
  ⟨some 24, none, .nilck (.tmp 23)⟩,
  ⟨some 25, none, .faddr 2 (.tmp 24)⟩,
  ⟨some 26, none, .load false 1 (.tmp 25)⟩,
  ⟨some 2, none, .mov (.tmp 26)⟩]
def c69 : AC := (.seq (.reg [⟨some 2, none, .mov (.const (.int .u8 0))⟩]) (.seq (.seq (.draw c69d0) (.cond (.tmp 19) (.reg c69r1) .skip)) (.seq (.reg c69r2) .ret)))
theorem t69 : tabFn 69 = some (27, c69, [.tmp 2]) := by kernel_rfl
/-- (*sorites/state.reader).count -/
def c115r0 : List AI := [⟨some 8, none, .mov (.tmp 0)⟩,
  ⟨some 9, none, .nilck (.tmp 8)⟩,
  ⟨some 10, none, .faddr 2 (.tmp 9)⟩,
  ⟨some 11, none, .load false 1 (.tmp 10)⟩,
  ⟨some 12, none, .bin .neq (.int .u8) (.tmp 11) (.const (.int .u8 0))⟩]
def c115d1 : List DI := [⟨⟨some 14, none, .mov (.tmp 0)⟩, 0, 0, 0⟩,
  ⟨⟨some 15, none, .nilck (.tmp 14)⟩, 0, 0, 0⟩,
  ⟨⟨some 16, none, .faddr 0 (.tmp 15)⟩, 0, 0, 0⟩,
  ⟨⟨some 17, none, .load false 1 (.tmp 16)⟩, 1, 0, 0⟩,
  ⟨⟨some 18, none, .mov (.tmp 0)⟩, 0, 0, 0⟩,
  ⟨⟨some 19, none, .nilck (.tmp 18)⟩, 0, 0, 0⟩,
  ⟨⟨some 20, none, .faddr 1 (.tmp 19)⟩, 0, 0, 0⟩,
  ⟨⟨some 21, none, .load false 1 (.tmp 20)⟩, 1, 0, 0⟩,
  ⟨⟨some 22, none, .call (.func 167) [(.tmp 17), (.tmp 21)]⟩, 2, 0, 0⟩,
  ⟨⟨some 13, none, .mov (.tmp 22)⟩, 0, 0, 0⟩,
  ⟨⟨some 23, none, .ext (.tmp 13) 0⟩, 0, 0, 0⟩,
  ⟨⟨some 24, none, .ext (.tmp 13) 1⟩, 0, 0, 0⟩,
  ⟨⟨some 25, none, .ext (.tmp 13) 2⟩, 0, 0, 0⟩,
  ⟨⟨some 5, none, .mov (.tmp 23)⟩, 0, 0, 0⟩,
  ⟨⟨some 6, none, .mov (.tmp 24)⟩, 0, 0, 0⟩,
  ⟨⟨some 7, none, .mov (.tmp 25)⟩, 0, 0, 0⟩]
def c115r2 : List AI := [⟨some 26, none, .mov (.tmp 0)⟩,
  ⟨some 27, none, .mov (.tmp 6)⟩,
  ⟨some 28, none, .mov (.tmp 7)⟩,
  ⟨some 29, none, .mov (.tmp 5)⟩,
  ⟨some 30, none, .mov (.tmp 1)⟩,
  ⟨some 31, none, .bin .leq (.int .u64) (.tmp 29) (.tmp 30)⟩,
  ⟨some 32, none, .call (.func 168) [(.tmp 26), (.tmp 27), (.tmp 28), (.tmp 31)]⟩,
  ⟨some 33, none, .un .not (.tmp 32)⟩]
def c115r3 : List AI := [⟨some 34, none, .mov (.tmp 5)⟩,
  ⟨some 35, none, .cvi .i64 (.tmp 34)⟩,
  ⟨some 4, none, .mov (.tmp 35)⟩]
def c115 : AC := (.seq (.reg [⟨some 4, none, .mov (.const (.int .i64 0))⟩]) (.seq (.seq (.reg c115r0) (.cond (.tmp 12) (.seq (.reg [⟨some 4, none, .mov (.const (.int .i64 0))⟩]) .ret) .skip)) (.seq (.draw c115d1) (.seq (.seq (.reg c115r2) (.cond (.tmp 33) (.seq (.reg [⟨some 4, none, .mov (.const (.int .i64 0))⟩]) .ret) .skip)) (.seq (.reg c115r3) .ret)))))
theorem t115 : tabFn 115 = some (36, c115, [.tmp 4]) := by kernel_rfl
/-- (*sorites/state.reader).node -/
def c116r0 : List AI := [⟨some 7, none, .mov (.tmp 0)⟩,
  ⟨some 8, none, .call (.func 117) [(.tmp 7)]⟩,
  ⟨some 9, none, .mov (.tmp 0)⟩,
  ⟨some 10, none, .call (.func 117) [(.tmp 9)]⟩,
  ⟨some 11, none, .mov (.tmp 0)⟩,
  ⟨some 12, none, .call (.func 117) [(.tmp 11)]⟩,
  ⟨some 13, none, .mov (.tmp 0)⟩,
  ⟨some 14, none, .call (.func 117) [(.tmp 13)]⟩,
  ⟨some 15, none, .build [.sc (.int .i64 0), .sc (.int .i64 0), .sc (.int .i64 0), .sc (.int .i64 0), .sl true []] [(0, 1, (.tmp 8)), (1, 1, (.tmp 10)), (2, 1, (.tmp 12)), (3, 1, (.tmp 14))]⟩,
  ⟨some 3, none, .alloc [.sc (.int .i64 0), .sc (.int .i64 0), .sc (.int .i64 0), .sc (.int .i64 0), .sl true []]⟩,
  ⟨none, none, .store 5 (.tmp 3) (.tmp 15)⟩]
def c116r1 : List AI := [⟨some 16, none, .mov (.tmp 0)⟩,
  ⟨some 17, none, .nilck (.tmp 16)⟩,
  ⟨some 18, none, .faddr 2 (.tmp 17)⟩,
  ⟨some 19, none, .load false 1 (.tmp 18)⟩,
  ⟨some 20, none, .bin .neq (.int .u8) (.tmp 19) (.const (.int .u8 0))⟩]
def c116d2 : List DI := [⟨⟨some 23, none, .mov (.tmp 0)⟩, 0, 0, 0⟩,
  ⟨⟨some 24, none, .nilck (.tmp 23)⟩, 0, 0, 0⟩,
  ⟨⟨some 25, none, .faddr 0 (.tmp 24)⟩, 0, 0, 0⟩,
  ⟨⟨some 26, none, .load false 1 (.tmp 25)⟩, 1, 0, 0⟩,
  ⟨⟨some 27, none, .mov (.tmp 0)⟩, 0, 0, 0⟩,
  ⟨⟨some 28, none, .nilck (.tmp 27)⟩, 0, 0, 0⟩,
  ⟨⟨some 29, none, .faddr 1 (.tmp 28)⟩, 0, 0, 0⟩,
  ⟨⟨some 30, none, .load false 1 (.tmp 29)⟩, 1, 0, 0⟩,
  ⟨⟨some 31, none, .call (.func 169) [(.tmp 26), (.tmp 30)]⟩, 2, 0, 0⟩,
  ⟨⟨some 22, none, .mov (.tmp 31)⟩, 0, 0, 0⟩,
  ⟨⟨some 32, none, .ext (.tmp 22) 0⟩, 0, 0, 0⟩,
  ⟨⟨some 33, none, .ext (.tmp 22) 1⟩, 0, 0, 0⟩,
  ⟨⟨some 34, none, .ext (.tmp 22) 2⟩, 0, 0, 0⟩,
  ⟨⟨some 4, none, .mov (.tmp 32)⟩, 0, 0, 0⟩,
  ⟨⟨some 5, none, .mov (.tmp 33)⟩, 0, 0, 0⟩,
  ⟨⟨some 6, none, .mov (.tmp 34)⟩, 0, 0, 0⟩]
def c116r3 : List AI := [⟨some 35, none, .mov (.tmp 0)⟩,
  ⟨some 36, none, .mov (.tmp 5)⟩,
  ⟨some 37, none, .mov (.tmp 6)⟩,
  ⟨some 38, none, .call (.func 168) [(.tmp 35), (.tmp 36), (.tmp 37), (.const (.bool true))]⟩]
def c116r4 : List AI := [⟨some 39, none, .mov (.tmp 4)⟩,
  ⟨some 40, none, .faddr 4 (.tmp 3)⟩,
  ⟨none, none, .store 1 (.tmp 40) (.tmp 39)⟩]
def c116 : AC := (.seq (.reg [⟨some 2, none, .alloc [.sc (.int .i64 0), .sc (.int .i64 0), .sc (.int .i64 0), .sc (.int .i64 0), .sl true []]⟩]) (.seq (.reg c116r0) (.seq (.seq (.reg c116r1) (.cond (.tmp 20) (.seq (.reg [⟨some 21, none, .build [.sc (.int .i64 0), .sc (.int .i64 0), .sc (.int .i64 0), .sc (.int .i64 0), .sl true []] []⟩,
    ⟨none, none, .store 5 (.tmp 2) (.tmp 21)⟩]) .ret) .skip)) (.seq (.draw c116d2) (.seq (.reg c116r3) (.seq (.reg c116r4) (.seq (.reg [⟨some 41, none, .load true 5 (.tmp 3)⟩,
    ⟨none, none, .store 5 (.tmp 2) (.tmp 41)⟩]) .ret)))))))
theorem t116 : tabFn 116 = some (42, c116, [.cell 2 true 5]) := by kernel_rfl
/-- (*sorites/state.reader).num -/
def c117r0 : List AI := [⟨some 6, none, .mov (.tmp 0)⟩,
  ⟨some 7, none, .nilck (.tmp 6)⟩,
  ⟨some 8, none, .faddr 2 (.tmp 7)⟩,
  ⟨some 9, none, .load false 1 (.tmp 8)⟩,
  ⟨some 10, none, .bin .neq (.int .u8) (.tmp 9) (.const (.int .u8 0))⟩]
def c117d1 : List DI := [⟨⟨some 12, none, .mov (.tmp 0)⟩, 0, 0, 0⟩,
  ⟨⟨some 13, none, .nilck (.tmp 12)⟩, 0, 0, 0⟩,
  ⟨⟨some 14, none, .faddr 0 (.tmp 13)⟩, 0, 0, 0⟩,
  ⟨⟨some 15, none, .load false 1 (.tmp 14)⟩, 1, 0, 0⟩,
  ⟨⟨some 16, none, .mov (.tmp 0)⟩, 0, 0, 0⟩,
  ⟨⟨some 17, none, .nilck (.tmp 16)⟩, 0, 0, 0⟩,
  ⟨⟨some 18, none, .faddr 1 (.tmp 17)⟩, 0, 0, 0⟩,
  ⟨⟨some 19, none, .load false 1 (.tmp 18)⟩, 1, 0, 0⟩,
  ⟨⟨some 20, none, .call (.func 170) [(.tmp 15), (.tmp 19)]⟩, 2, 0, 0⟩,
  ⟨⟨some 11, none, .mov (.tmp 20)⟩, 0, 0, 0⟩,
  ⟨⟨some 21, none, .ext (.tmp 11) 0⟩, 0, 0, 0⟩,
  ⟨⟨some 22, none, .ext (.tmp 11) 1⟩, 0, 0, 0⟩,
  ⟨⟨some 23, none, .ext (.tmp 11) 2⟩, 0, 0, 0⟩,
  ⟨⟨some 3, none, .mov (.tmp 21)⟩, 0, 0, 0⟩,
  ⟨⟨some 4, none, .mov (.tmp 22)⟩, 0, 0, 0⟩,
  ⟨⟨some 5, none, .mov (.tmp 23)⟩, 0, 0, 0⟩]
def c117r2 : List AI := [⟨some 24, none, .mov (.tmp 0)⟩,
  ⟨some 25, none, .mov (.tmp 4)⟩,
  ⟨some 26, none, .mov (.tmp 5)⟩,
  ⟨some 27, none, .mov (.tmp 3)⟩,
  ⟨some 28, none, .bin .geq (.int .i64) (.tmp 27) (.const (.int .i64 (-2147483648)))⟩,
  ⟨some 29, none, .mov (.tmp 28)⟩,
  ⟨some 30, some (29, true), .mov (.tmp 3)⟩,
  ⟨some 31, some (29, true), .bin .leq (.int .i64) (.tmp 30) (.const (.int .i64 2147483647))⟩,
  ⟨some 32, none, .pick (.tmp 29) (.tmp 31) (.const (.bool false))⟩,
  ⟨some 33, none, .call (.func 168) [(.tmp 24), (.tmp 25), (.tmp 26), (.tmp 32)]⟩,
  ⟨some 34, none, .un .not (.tmp 33)⟩]
def c117 : AC := (.seq (.reg [⟨some 2, none, .mov (.const (.int .i64 0))⟩]) (.seq (.seq (.reg c117r0) (.cond (.tmp 10) (.seq (.reg [⟨some 2, none, .mov (.const (.int .i64 0))⟩]) .ret) .skip)) (.seq (.draw c117d1) (.seq (.seq (.reg c117r2) (.cond (.tmp 34) (.seq (.reg [⟨some 2, none, .mov (.const (.int .i64 0))⟩]) .ret) .skip)) (.seq (.reg [⟨some 35, none, .mov (.tmp 3)⟩,
    ⟨some 2, none, .mov (.tmp 35)⟩]) .ret)))))
theorem t117 : tabFn 117 = some (36, c117, [.tmp 2]) := by kernel_rfl
/-- (*sorites/state.reader).took -/
def c168r0 : List AI := [⟨some 14, none, .mov (.tmp 2)⟩,
  ⟨some 15, none, .bin .neq (.int .u8) (.tmp 14) (.const (.int .u8 0))⟩,
  ⟨some 13, none, .mov (.tmp 15)⟩]
def c168r1 : List AI := [⟨some 16, none, .mov (.tmp 0)⟩,
  ⟨some 17, none, .mov (.tmp 2)⟩,
  ⟨some 18, none, .nilck (.tmp 16)⟩,
  ⟨some 19, none, .faddr 2 (.tmp 18)⟩,
  ⟨none, none, .store 1 (.tmp 19) (.tmp 17)⟩]
def c168r2 : List AI := [⟨some 21, none, .mov (.tmp 3)⟩,
  ⟨some 22, none, .un .not (.tmp 21)⟩,
  ⟨some 20, none, .mov (.tmp 22)⟩]
def c168r3 : List AI := [⟨some 23, none, .mov (.tmp 0)⟩,
  ⟨some 24, none, .nilck (.tmp 23)⟩,
  ⟨some 25, none, .faddr 2 (.tmp 24)⟩,
  ⟨none, none, .store 1 (.tmp 25) (.const (.int .u8 7))⟩]
def c168r4 : List AI := [⟨some 9, none, .mov (.tmp 0)⟩,
  ⟨some 10, none, .mov (.tmp 1)⟩,
  ⟨some 11, none, .nilck (.tmp 9)⟩,
  ⟨some 12, none, .faddr 1 (.tmp 11)⟩,
  ⟨none, none, .store 1 (.tmp 12) (.tmp 10)⟩]
def c168r5 : List AI := [⟨some 26, none, .mov (.tmp 0)⟩,
  ⟨some 27, none, .nilck (.tmp 26)⟩,
  ⟨some 28, none, .faddr 2 (.tmp 27)⟩,
  ⟨some 29, none, .load false 1 (.tmp 28)⟩,
  ⟨some 30, none, .bin .eql (.int .u8) (.tmp 29) (.const (.int .u8 0))⟩,
  ⟨some 8, none, .mov (.tmp 30)⟩]
def c168 : AC := (.seq (.reg [⟨some 8, none, .mov (.const (.bool false))⟩]) (.seq (.block 0 (.seq (.reg c168r0) (.cond (.tmp 13) (.reg c168r1) (.seq (.reg c168r2) (.cond (.tmp 20) (.reg c168r3) (.reg c168r4)))))) (.seq (.reg c168r5) .ret)))
theorem t168 : tabFn 168 = some (31, c168, [.tmp 8]) := by kernel_rfl
/-- sorites/clause.Get -/
def c169r0 : List AI := [⟨some 4, none, .mov (.const (.slice none 0 0))⟩,
  ⟨some 5, none, .mov (.const (.int .i64 0))⟩,
  ⟨some 6, none, .mov (.const (.int .u8 0))⟩]
def c169r1 : List AI := [⟨some 11, none, .mov (.tmp 0)⟩,
  ⟨some 12, none, .mov (.tmp 1)⟩,
  ⟨some 13, none, .build [.sl true [], .sc (.int .i64 0), .sc (.int .u8 0)] [(0, 1, (.tmp 11)), (1, 1, (.tmp 12))]⟩,
  ⟨some 14, none, .box (.tmp 13)⟩,
  ⟨some 7, none, .mov (.tmp 14)⟩]
def c169r2 : List AI := [⟨some 15, none, .mov (.tmp 7)⟩,
  ⟨some 16, none, .call (.func 212) [(.tmp 15), (.const (.int .u64 4096))]⟩,
  ⟨some 17, none, .mov (.const (.int .i64 0))⟩]
def c169r3 : List AI := [⟨some 19, none, .mov (.tmp 7)⟩,
  ⟨some 20, none, .call (.func 212) [(.tmp 19), (.const (.int .u64 1))]⟩,
  ⟨some 9, none, .mov (.tmp 20)⟩]
def c169r4 : List AI := [⟨some 21, none, .mov (.tmp 9)⟩,
  ⟨some 22, none, .bin .eql (.int .i64) (.tmp 21) (.const (.int .i64 1))⟩,
  ⟨some 23, none, .mov (.tmp 7)⟩,
  ⟨some 24, none, .call (.func 213) [(.tmp 23), (.const (.int .i64 0))]⟩,
  ⟨some 25, none, .build [.sc (.bool false), .sc (.int .i64 0), .sl true [], .sc (.int .i64 0), .sl true []] [(0, 1, (.tmp 22)), (1, 2, (.tmp 24))]⟩,
  ⟨some 10, none, .alloc [.sc (.bool false), .sc (.int .i64 0), .sl true [], .sc (.int .i64 0), .sl true []]⟩,
  ⟨none, none, .store 5 (.tmp 10) (.tmp 25)⟩]
def c169r5 : List AI := [⟨some 26, none, .mov (.tmp 7)⟩,
  ⟨some 27, none, .call (.func 213) [(.tmp 26), (.const (.int .i64 0))]⟩,
  ⟨some 28, none, .faddr 3 (.tmp 10)⟩,
  ⟨none, none, .store 2 (.tmp 28) (.tmp 27)⟩]
def c169r6 : List AI := [⟨some 29, none, .mov (.tmp 7)⟩,
  ⟨some 30, none, .nilck (.tmp 29)⟩,
  ⟨some 31, none, .faddr 2 (.tmp 30)⟩,
  ⟨some 32, none, .load false 1 (.tmp 31)⟩,
  ⟨some 33, none, .bin .neq (.int .u8) (.tmp 32) (.const (.int .u8 0))⟩]
def c169r7 : List AI := [⟨some 34, none, .mov (.tmp 8)⟩,
  ⟨some 35, none, .load true 5 (.tmp 10)⟩,
  ⟨some 36, none, .mksl 90 5 [(.tmp 35)]⟩,
  ⟨some 37, none, .app 90 5 72 (.tmp 34) (.tmp 36)⟩,
  ⟨some 8, none, .mov (.tmp 37)⟩]
def c169l8 : AC := (.seq (.reg [⟨some 18, none, .bin .lss (.int .i64) (.tmp 17) (.tmp 16)⟩]) (.seq (.cond (.tmp 18) .skip (.exit 0)) (.seq (.block 1 (.seq (.reg c169r3) (.seq (.reg c169r4) (.seq (.reg c169r5) (.seq (.seq (.reg c169r6) (.cond (.tmp 33) (.exit 0) .skip)) (.reg c169r7)))))) (.reg [⟨some 38, none, .bin .add (.int .i64) (.tmp 17) (.const (.int .i64 1))⟩,
    ⟨some 17, none, .mov (.tmp 38)⟩]))))
def c169r9 : List AI := [⟨some 39, none, .mov (.tmp 7)⟩,
  ⟨some 40, none, .nilck (.tmp 39)⟩,
  ⟨some 41, none, .faddr 2 (.tmp 40)⟩,
  ⟨some 42, none, .load false 1 (.tmp 41)⟩,
  ⟨some 43, none, .bin .neq (.int .u8) (.tmp 42) (.const (.int .u8 0))⟩]
def c169d10 : List DI := [⟨⟨some 44, none, .mov (.tmp 7)⟩, 0, 0, 0⟩,
  ⟨⟨some 45, none, .nilck (.tmp 44)⟩, 0, 0, 0⟩,
  ⟨⟨some 46, none, .faddr 2 (.tmp 45)⟩, 0, 0, 0⟩,
  ⟨⟨some 47, none, .load false 1 (.tmp 46)⟩, 1, 0, 0⟩,
  ⟨⟨some 4, none, .mov (.const (.slice none 0 0))⟩, 0, 0, 0⟩,
  ⟨⟨some 5, none, .mov (.const (.int .i64 0))⟩, 0, 0, 0⟩,
  ⟨⟨some 6, none, .mov (.tmp 47)⟩, 0, 0, 0⟩]
def c169d11 : List DI := [⟨⟨some 48, none, .mov (.tmp 8)⟩, 0, 0, 0⟩,
  ⟨⟨some 49, none, .mov (.tmp 7)⟩, 0, 0, 0⟩,
  ⟨⟨some 50, none, .nilck (.tmp 49)⟩, 0, 0, 0⟩,
  ⟨⟨some 51, none, .faddr 1 (.tmp 50)⟩, 0, 0, 0⟩,
  ⟨⟨some 52, none, .load false 1 (.tmp 51)⟩, 1, 0, 0⟩,
  ⟨⟨some 4, none, .mov (.tmp 48)⟩, 0, 0, 0⟩,
  ⟨⟨some 5, none, .mov (.tmp 52)⟩, 0, 0, 0⟩,
  ⟨⟨some 6, none, .mov (.const (.int .u8 0))⟩, 0, 0, 0⟩]
def c169 : AC := (.seq (.reg c169r0) (.seq (.reg c169r1) (.seq (.reg [⟨some 8, none, .mov (.const (.slice none 0 0))⟩]) (.seq (.seq (.reg c169r2) (.block 0 (.loop c169l8))) (.seq (.seq (.reg c169r9) (.cond (.tmp 43) (.seq (.draw c169d10) .ret) .skip)) (.seq (.draw c169d11) .ret))))))
theorem t169 : tabFn 169 = some (53, c169, [.tmp 4, .tmp 5, .tmp 6]) := by kernel_rfl
/-- (*sorites/clause.reader).count -/
def c212r0 : List AI := [⟨some 8, none, .mov (.tmp 0)⟩,
  ⟨some 9, none, .nilck (.tmp 8)⟩,
  ⟨some 10, none, .faddr 2 (.tmp 9)⟩,
  ⟨some 11, none, .load false 1 (.tmp 10)⟩,
  ⟨some 12, none, .bin .neq (.int .u8) (.tmp 11) (.const (.int .u8 0))⟩]
def c212d1 : List DI := [⟨⟨some 14, none, .mov (.tmp 0)⟩, 0, 0, 0⟩,
  ⟨⟨some 15, none, .nilck (.tmp 14)⟩, 0, 0, 0⟩,
  ⟨⟨some 16, none, .faddr 0 (.tmp 15)⟩, 0, 0, 0⟩,
  ⟨⟨some 17, none, .load false 1 (.tmp 16)⟩, 1, 0, 0⟩,
  ⟨⟨some 18, none, .mov (.tmp 0)⟩, 0, 0, 0⟩,
  ⟨⟨some 19, none, .nilck (.tmp 18)⟩, 0, 0, 0⟩,
  ⟨⟨some 20, none, .faddr 1 (.tmp 19)⟩, 0, 0, 0⟩,
  ⟨⟨some 21, none, .load false 1 (.tmp 20)⟩, 1, 0, 0⟩,
  ⟨⟨some 22, none, .call (.func 167) [(.tmp 17), (.tmp 21)]⟩, 2, 0, 0⟩,
  ⟨⟨some 13, none, .mov (.tmp 22)⟩, 0, 0, 0⟩,
  ⟨⟨some 23, none, .ext (.tmp 13) 0⟩, 0, 0, 0⟩,
  ⟨⟨some 24, none, .ext (.tmp 13) 1⟩, 0, 0, 0⟩,
  ⟨⟨some 25, none, .ext (.tmp 13) 2⟩, 0, 0, 0⟩,
  ⟨⟨some 5, none, .mov (.tmp 23)⟩, 0, 0, 0⟩,
  ⟨⟨some 6, none, .mov (.tmp 24)⟩, 0, 0, 0⟩,
  ⟨⟨some 7, none, .mov (.tmp 25)⟩, 0, 0, 0⟩]
def c212r2 : List AI := [⟨some 33, none, .mov (.tmp 7)⟩,
  ⟨some 34, none, .bin .neq (.int .u8) (.tmp 33) (.const (.int .u8 0))⟩,
  ⟨some 32, none, .mov (.tmp 34)⟩]
def c212r3 : List AI := [⟨some 35, none, .mov (.tmp 0)⟩,
  ⟨some 36, none, .mov (.tmp 7)⟩,
  ⟨some 37, none, .call (.func 239) [(.tmp 35), (.tmp 36)]⟩]
def c212r4 : List AI := [⟨some 39, none, .mov (.tmp 5)⟩,
  ⟨some 40, none, .mov (.tmp 1)⟩,
  ⟨some 41, none, .bin .gtr (.int .u64) (.tmp 39) (.tmp 40)⟩,
  ⟨some 38, none, .mov (.tmp 41)⟩]
def c212r5 : List AI := [⟨some 26, none, .mov (.tmp 0)⟩,
  ⟨some 27, none, .mov (.tmp 6)⟩,
  ⟨some 28, none, .nilck (.tmp 26)⟩,
  ⟨some 29, none, .faddr 1 (.tmp 28)⟩,
  ⟨none, none, .store 1 (.tmp 29) (.tmp 27)⟩]
def c212r6 : List AI := [⟨some 30, none, .mov (.tmp 5)⟩,
  ⟨some 31, none, .cvi .i64 (.tmp 30)⟩,
  ⟨some 4, none, .mov (.tmp 31)⟩]
def c212 : AC := (.seq (.reg [⟨some 4, none, .mov (.const (.int .i64 0))⟩]) (.seq (.seq (.reg c212r0) (.cond (.tmp 12) (.seq (.reg [⟨some 4, none, .mov (.const (.int .i64 0))⟩]) .ret) .skip)) (.seq (.draw c212d1) (.seq (.block 0 (.seq (.reg c212r2) (.cond (.tmp 32) (.reg c212r3) (.seq (.reg c212r4) (.cond (.tmp 38) (.reg [⟨some 42, none, .mov (.tmp 0)⟩,
    ⟨some 43, none, .call (.func 239) [(.tmp 42), (.const (.int .u8 7))]⟩]) (.seq (.reg c212r5) (.seq (.reg c212r6) .ret))))))) (.seq (.reg [⟨some 4, none, .mov (.const (.int .i64 0))⟩]) .ret)))))
theorem t212 : tabFn 212 = some (44, c212, [.tmp 4]) := by kernel_rfl
/-- (*sorites/clause.reader).term -/
def c213r0 : List AI := [⟨some 9, none, .mov (.tmp 0)⟩,
  ⟨some 10, none, .nilck (.tmp 9)⟩,
  ⟨some 11, none, .faddr 2 (.tmp 10)⟩,
  ⟨some 12, none, .load false 1 (.tmp 11)⟩,
  ⟨some 13, none, .bin .neq (.int .u8) (.tmp 12) (.const (.int .u8 0))⟩]
def c213d1 : List DI := [⟨⟨some 16, none, .mov (.tmp 0)⟩, 0, 0, 0⟩,
  ⟨⟨some 17, none, .nilck (.tmp 16)⟩, 0, 0, 0⟩,
  ⟨⟨some 18, none, .faddr 0 (.tmp 17)⟩, 0, 0, 0⟩,
  ⟨⟨some 19, none, .load false 1 (.tmp 18)⟩, 1, 0, 0⟩,
  ⟨⟨some 20, none, .mov (.tmp 0)⟩, 0, 0, 0⟩,
  ⟨⟨some 21, none, .nilck (.tmp 20)⟩, 0, 0, 0⟩,
  ⟨⟨some 22, none, .faddr 1 (.tmp 21)⟩, 0, 0, 0⟩,
  ⟨⟨some 23, none, .load false 1 (.tmp 22)⟩, 1, 0, 0⟩,
  ⟨⟨some 24, none, .call (.func 170) [(.tmp 19), (.tmp 23)]⟩, 2, 0, 0⟩,
  ⟨⟨some 15, none, .mov (.tmp 24)⟩, 0, 0, 0⟩,
  ⟨⟨some 25, none, .ext (.tmp 15) 0⟩, 0, 0, 0⟩,
  ⟨⟨some 26, none, .ext (.tmp 15) 1⟩, 0, 0, 0⟩,
  ⟨⟨some 27, none, .ext (.tmp 15) 2⟩, 0, 0, 0⟩,
  ⟨⟨some 5, none, .mov (.tmp 25)⟩, 0, 0, 0⟩,
  ⟨⟨some 6, none, .mov (.tmp 26)⟩, 0, 0, 0⟩,
  ⟨⟨some 7, none, .mov (.tmp 27)⟩, 0, 0, 0⟩]
def c213r2 : List AI := [⟨some 29, none, .mov (.tmp 7)⟩,
  ⟨some 30, none, .bin .neq (.int .u8) (.tmp 29) (.const (.int .u8 0))⟩,
  ⟨some 28, none, .mov (.tmp 30)⟩]
def c213r3 : List AI := [⟨some 31, none, .mov (.tmp 0)⟩,
  ⟨some 32, none, .mov (.tmp 7)⟩,
  ⟨some 33, none, .call (.func 239) [(.tmp 31), (.tmp 32)]⟩]
def c213r4 : List AI := [⟨some 36, none, .mov (.tmp 5)⟩,
  ⟨some 37, none, .bin .lss (.int .i64) (.tmp 36) (.const (.int .i64 (-2147483648)))⟩,
  ⟨some 38, none, .mov (.tmp 37)⟩,
  ⟨some 39, some (38, false), .mov (.tmp 5)⟩,
  ⟨some 40, some (38, false), .bin .gtr (.int .i64) (.tmp 39) (.const (.int .i64 2147483647))⟩,
  ⟨some 41, none, .pick (.tmp 38) (.const (.bool true)) (.tmp 40)⟩,
  ⟨some 42, none, .mov (.tmp 41)⟩,
  ⟨some 43, some (42, false), .mov (.tmp 1)⟩,
  ⟨some 44, some (42, false), .bin .gtr (.int .i64) (.tmp 43) (.const (.int .i64 256))⟩,
  ⟨some 45, none, .pick (.tmp 42) (.const (.bool true)) (.tmp 44)⟩,
  ⟨some 35, none, .mov (.tmp 45)⟩]
def c213r5 : List AI := [⟨some 49, none, .mov (.tmp 0)⟩,
  ⟨some 50, none, .mov (.tmp 6)⟩,
  ⟨some 51, none, .nilck (.tmp 49)⟩,
  ⟨some 52, none, .faddr 1 (.tmp 51)⟩,
  ⟨none, none, .store 1 (.tmp 52) (.tmp 50)⟩]
def c213r6 : List AI := [⟨some 53, none, .mov (.tmp 5)⟩,
  ⟨some 54, none, .build [.sc (.int .i64 0), .sl true []] [(0, 1, (.tmp 53))]⟩,
  ⟨some 8, none, .alloc [.sc (.int .i64 0), .sl true []]⟩,
  ⟨none, none, .store 2 (.tmp 8) (.tmp 54)⟩]
def c213r7 : List AI := [⟨some 58, none, .mov (.tmp 0)⟩,
  ⟨some 59, none, .call (.func 212) [(.tmp 58), (.const (.int .u64 4096))]⟩,
  ⟨some 60, none, .mov (.const (.int .i64 0))⟩]
def c213r8 : List AI := [⟨some 62, none, .mov (.tmp 0)⟩,
  ⟨some 63, none, .nilck (.tmp 62)⟩,
  ⟨some 64, none, .faddr 2 (.tmp 63)⟩,
  ⟨some 65, none, .load false 1 (.tmp 64)⟩,
  ⟨some 66, none, .bin .neq (.int .u8) (.tmp 65) (.const (.int .u8 0))⟩]
def c213d9 : List DI := [⟨⟨some 67, none, .faddr 1 (.tmp 8)⟩, 0, 0, 0⟩,
  ⟨⟨some 68, none, .load false 1 (.tmp 67)⟩, 1, 0, 1⟩,
  ⟨⟨some 69, none, .mov (.tmp 0)⟩, 0, 0, 0⟩,
  ⟨⟨some 70, none, .mov (.tmp 1)⟩, 0, 0, 0⟩,
  ⟨⟨some 71, none, .bin .add (.int .i64) (.tmp 70) (.const (.int .i64 1))⟩, 0, 0, 0⟩,
  ⟨⟨some 72, none, .call (.func 213) [(.tmp 69), (.tmp 71)]⟩, 2, 0, 0⟩,
  ⟨⟨some 73, none, .mksl 88 2 [(.tmp 72)]⟩, 0, 0, 0⟩,
  ⟨⟨some 74, none, .app 88 2 32 (.tmp 68) (.tmp 73)⟩, 2, 0, 0⟩,
  ⟨⟨some 75, none, .faddr 1 (.tmp 8)⟩, 0, 0, 0⟩,
  ⟨⟨none, none, .store 1 (.tmp 75) (.tmp 74)⟩, 2, 0, 0⟩]
def c213l10 : AC := (.seq (.reg [⟨some 61, none, .bin .lss (.int .i64) (.tmp 60) (.tmp 59)⟩]) (.seq (.cond (.tmp 61) .skip (.exit 1)) (.seq (.block 2 (.seq (.seq (.reg c213r8) (.cond (.tmp 66) (.exit 1) .skip)) (.draw c213d9))) (.reg [⟨some 76, none, .bin .add (.int .i64) (.tmp 60) (.const (.int .i64 1))⟩,
    ⟨some 60, none, .mov (.tmp 76)⟩]))))
def c213 : AC := (.seq (.reg [⟨some 4, none, .alloc [.sc (.int .i64 0), .sl true []]⟩]) (.seq (.seq (.reg c213r0) (.cond (.tmp 13) (.seq (.reg [⟨some 14, none, .build [.sc (.int .i64 0), .sl true []] []⟩,
    ⟨none, none, .store 2 (.tmp 4) (.tmp 14)⟩]) .ret) .skip)) (.seq (.draw c213d1) (.seq (.block 0 (.seq (.reg c213r2) (.cond (.tmp 28) (.seq (.reg c213r3) (.seq (.reg [⟨some 34, none, .build [.sc (.int .i64 0), .sl true []] []⟩,
    ⟨none, none, .store 2 (.tmp 4) (.tmp 34)⟩]) .ret)) (.seq (.reg c213r4) (.cond (.tmp 35) (.seq (.reg [⟨some 46, none, .mov (.tmp 0)⟩,
    ⟨some 47, none, .call (.func 239) [(.tmp 46), (.const (.int .u8 7))]⟩]) (.seq (.reg [⟨some 48, none, .build [.sc (.int .i64 0), .sl true []] []⟩,
    ⟨none, none, .store 2 (.tmp 4) (.tmp 48)⟩]) .ret)) .skip))))) (.seq (.reg c213r5) (.seq (.reg c213r6) (.seq (.seq (.reg [⟨some 55, none, .mov (.tmp 5)⟩,
    ⟨some 56, none, .bin .lss (.int .i64) (.tmp 55) (.const (.int .i64 0))⟩]) (.cond (.tmp 56) (.seq (.reg [⟨some 57, none, .load true 2 (.tmp 8)⟩,
    ⟨none, none, .store 2 (.tmp 4) (.tmp 57)⟩]) .ret) .skip)) (.seq (.seq (.reg c213r7) (.block 1 (.loop c213l10))) (.seq (.reg [⟨some 77, none, .load true 2 (.tmp 8)⟩,
    ⟨none, none, .store 2 (.tmp 4) (.tmp 77)⟩]) .ret)))))))))
theorem t213 : tabFn 213 = some (78, c213, [.cell 4 true 2]) := by kernel_rfl
/-- (*sorites/clause.reader).fail -/
def c239r0 : List AI := [⟨some 4, none, .mov (.tmp 0)⟩,
  ⟨some 5, none, .nilck (.tmp 4)⟩,
  ⟨some 6, none, .faddr 2 (.tmp 5)⟩,
  ⟨some 7, none, .load false 1 (.tmp 6)⟩,
  ⟨some 8, none, .bin .eql (.int .u8) (.tmp 7) (.const (.int .u8 0))⟩]
def c239r1 : List AI := [⟨some 9, none, .mov (.tmp 0)⟩,
  ⟨some 10, none, .mov (.tmp 1)⟩,
  ⟨some 11, none, .nilck (.tmp 9)⟩,
  ⟨some 12, none, .faddr 2 (.tmp 11)⟩,
  ⟨none, none, .store 1 (.tmp 12) (.tmp 10)⟩]
def c239 : AC := (.seq (.reg c239r0) (.cond (.tmp 8) (.reg c239r1) .skip))
theorem t239 : tabFn 239 = some (13, c239, []) := by kernel_rfl
/-- sorites/state.Same -/
def c16r0 : List AI := [⟨some 2, none, .box (.tmp 0)⟩,
  ⟨some 3, none, .box (.tmp 1)⟩,
  ⟨some 4, none, .mov (.const (.bool false))⟩]
def c16r1 : List AI := [⟨some 5, none, .faddr 0 (.tmp 2)⟩,
  ⟨some 6, none, .load false 1 (.tmp 5)⟩,
  ⟨some 7, none, .faddr 0 (.tmp 3)⟩,
  ⟨some 8, none, .load false 1 (.tmp 7)⟩,
  ⟨some 9, none, .bin .eql (.int .i64) (.tmp 6) (.tmp 8)⟩,
  ⟨some 10, none, .mov (.tmp 9)⟩,
  ⟨some 11, some (10, true), .faddr 1 (.tmp 2)⟩,
  ⟨some 12, some (10, true), .load false 1 (.tmp 11)⟩,
  ⟨some 13, some (10, true), .faddr 1 (.tmp 3)⟩,
  ⟨some 14, some (10, true), .load false 1 (.tmp 13)⟩,
  ⟨some 15, some (10, true), .bin .eql (.int .i64) (.tmp 12) (.tmp 14)⟩,
  ⟨some 16, none, .pick (.tmp 10) (.tmp 15) (.const (.bool false))⟩,
  ⟨some 17, none, .mov (.tmp 16)⟩,
  ⟨some 18, some (17, true), .faddr 2 (.tmp 2)⟩,
  ⟨some 19, some (17, true), .load false 1 (.tmp 18)⟩,
  ⟨some 20, some (17, true), .faddr 2 (.tmp 3)⟩,
  ⟨some 21, some (17, true), .load false 1 (.tmp 20)⟩,
  ⟨some 22, some (17, true), .bin .eql (.int .i64) (.tmp 19) (.tmp 21)⟩,
  ⟨some 23, none, .pick (.tmp 17) (.tmp 22) (.const (.bool false))⟩,
  ⟨some 24, none, .mov (.tmp 23)⟩,
  ⟨some 25, some (24, true), .faddr 3 (.tmp 2)⟩,
  ⟨some 26, some (24, true), .load false 1 (.tmp 25)⟩,
  ⟨some 27, some (24, true), .faddr 3 (.tmp 3)⟩,
  ⟨some 28, some (24, true), .load false 1 (.tmp 27)⟩,
  ⟨some 29, some (24, true), .bin .eql (.int .i64) (.tmp 26) (.tmp 28)⟩,
  ⟨some 30, none, .pick (.tmp 24) (.tmp 29) (.const (.bool false))⟩,
  ⟨some 31, none, .mov (.tmp 30)⟩,
  ⟨some 32, some (31, true), .faddr 4 (.tmp 2)⟩,
  ⟨some 33, some (31, true), .load false 1 (.tmp 32)⟩,
  ⟨some 34, some (31, true), .faddr 4 (.tmp 3)⟩,
  ⟨some 35, some (31, true), .load false 1 (.tmp 34)⟩,
  ⟨some 36, some (31, true), .bin .eql .bool (.tmp 33) (.tmp 35)⟩,
  ⟨some 37, none, .pick (.tmp 31) (.tmp 36) (.const (.bool false))⟩,
  ⟨some 38, none, .mov (.tmp 37)⟩,
  ⟨some 39, some (38, true), .faddr 6 (.tmp 2)⟩,
  ⟨some 40, some (38, true), .load false 1 (.tmp 39)⟩,
  ⟨some 41, some (38, true), .faddr 6 (.tmp 3)⟩,
  ⟨some 42, some (38, true), .load false 1 (.tmp 41)⟩,
  ⟨some 43, some (38, true), .call (.func 33) [(.tmp 40), (.tmp 42)]⟩,
  ⟨some 44, none, .pick (.tmp 38) (.tmp 43) (.const (.bool false))⟩,
  ⟨some 45, none, .mov (.tmp 44)⟩,
  ⟨some 46, some (45, true), .faddr 7 (.tmp 2)⟩,
  ⟨some 47, some (45, true), .load false 1 (.tmp 46)⟩,
  ⟨some 48, some (45, true), .faddr 7 (.tmp 3)⟩,
  ⟨some 49, some (45, true), .load false 1 (.tmp 48)⟩,
  ⟨some 50, some (45, true), .call (.func 33) [(.tmp 47), (.tmp 49)]⟩,
  ⟨some 51, none, .pick (.tmp 45) (.tmp 50) (.const (.bool false))⟩,
  ⟨some 52, none, .mov (.tmp 51)⟩,
  ⟨some 53, some (52, true), .faddr 5 (.tmp 2)⟩,
  ⟨some 54, some (52, true), .load false 1 (.tmp 53)⟩,
  ⟨some 55, some (52, true), .faddr 5 (.tmp 3)⟩,
  ⟨some 56, some (52, true), .load false 1 (.tmp 55)⟩,
  ⟨some 57, some (52, true), .call (.func 34) [(.tmp 54), (.tmp 56), (.func 35)]⟩,
  ⟨some 58, none, .pick (.tmp 52) (.tmp 57) (.const (.bool false))⟩,
  ⟨some 4, none, .mov (.tmp 58)⟩]
def c16 : AC := (.seq (.reg c16r0) (.seq (.reg c16r1) .ret))
theorem t16 : tabFn 16 = some (59, c16, [.tmp 4]) := by kernel_rfl
/-- sorites/soritesref01.Same -/
def c17r0 : List AI := [⟨some 6, none, .mov (.tmp 0)⟩,
  ⟨some 7, none, .len false (.tmp 6)⟩,
  ⟨some 8, none, .mov (.tmp 1)⟩,
  ⟨some 9, none, .len false (.tmp 8)⟩,
  ⟨some 10, none, .bin .neq (.int .i64) (.tmp 7) (.tmp 9)⟩]
def c17r1 : List AI := [⟨some 11, none, .mov (.tmp 5)⟩,
  ⟨some 12, none, .mov (.tmp 0)⟩,
  ⟨some 13, none, .len false (.tmp 12)⟩,
  ⟨some 14, none, .bin .lss (.int .i64) (.tmp 11) (.tmp 13)⟩]
def c17d2 : List DI := [⟨⟨some 17, none, .mov (.tmp 0)⟩, 0, 0, 0⟩,
  ⟨⟨some 18, none, .mov (.tmp 5)⟩, 0, 0, 0⟩,
  ⟨⟨some 19, none, .iaddr 1 (.tmp 17) (.tmp 18)⟩, 0, 0, 0⟩,
  ⟨⟨some 20, none, .load false 1 (.tmp 19)⟩, 1, 0, 0⟩,
  ⟨⟨some 21, none, .mov (.tmp 1)⟩, 0, 0, 0⟩,
  ⟨⟨some 22, none, .mov (.tmp 5)⟩, 0, 0, 0⟩,
  ⟨⟨some 23, none, .iaddr 1 (.tmp 21) (.tmp 22)⟩, 0, 0, 0⟩,
  ⟨⟨some 24, none, .load false 1 (.tmp 23)⟩, 1, 0, 0⟩,
  ⟨⟨some 25, none, .bin .neq (.int .u8) (.tmp 20) (.tmp 24)⟩, 0, 0, 0⟩]
def c17r3 : List AI := [⟨some 15, none, .mov (.tmp 5)⟩,
  ⟨some 16, none, .bin .add (.int .i64) (.tmp 15) (.const (.int .i64 1))⟩,
  ⟨some 5, none, .mov (.tmp 16)⟩]
def c17l4 : AC := (.seq (.seq (.reg c17r1) (.cond (.tmp 14) .skip (.exit 0))) (.seq (.block 1 (.seq (.draw c17d2) (.cond (.tmp 25) (.seq (.reg [⟨some 4, none, .mov (.const (.bool false))⟩]) .ret) .skip))) (.reg c17r3)))
def c17 : AC := (.seq (.reg [⟨some 4, none, .mov (.const (.bool false))⟩]) (.seq (.seq (.reg c17r0) (.cond (.tmp 10) (.seq (.reg [⟨some 4, none, .mov (.const (.bool false))⟩]) .ret) .skip)) (.seq (.seq (.reg [⟨some 5, none, .mov (.const (.int .i64 0))⟩]) (.block 0 (.loop c17l4))) (.seq (.reg [⟨some 4, none, .mov (.const (.bool true))⟩]) .ret))))
theorem t17 : tabFn 17 = some (26, c17, [.tmp 4]) := by kernel_rfl
/-- slices.Equal[[]int,int] -/
def c33r0 : List AI := [⟨some 6, none, .mov (.tmp 0)⟩,
  ⟨some 7, none, .len false (.tmp 6)⟩,
  ⟨some 8, none, .mov (.tmp 1)⟩,
  ⟨some 9, none, .len false (.tmp 8)⟩,
  ⟨some 10, none, .bin .neq (.int .i64) (.tmp 7) (.tmp 9)⟩]
def c33r1 : List AI := [⟨some 11, none, .mov (.tmp 0)⟩,
  ⟨some 12, none, .len false (.tmp 11)⟩,
  ⟨some 13, none, .mov (.const (.int .i64 0))⟩]
def c33d2 : List DI := [⟨⟨some 16, none, .mov (.tmp 0)⟩, 0, 0, 0⟩,
  ⟨⟨some 17, none, .mov (.tmp 5)⟩, 0, 0, 0⟩,
  ⟨⟨some 18, none, .iaddr 1 (.tmp 16) (.tmp 17)⟩, 0, 0, 0⟩,
  ⟨⟨some 19, none, .load false 1 (.tmp 18)⟩, 1, 0, 0⟩,
  ⟨⟨some 20, none, .mov (.tmp 1)⟩, 0, 0, 0⟩,
  ⟨⟨some 21, none, .mov (.tmp 5)⟩, 0, 0, 0⟩,
  ⟨⟨some 22, none, .iaddr 1 (.tmp 20) (.tmp 21)⟩, 0, 0, 0⟩,
  ⟨⟨some 23, none, .load false 1 (.tmp 22)⟩, 1, 0, 0⟩,
  ⟨⟨some 24, none, .bin .neq (.int .i64) (.tmp 19) (.tmp 23)⟩, 0, 0, 0⟩]
def c33l3 : AC := (.seq (.reg [⟨some 14, none, .bin .lss (.int .i64) (.tmp 13) (.tmp 12)⟩]) (.seq (.cond (.tmp 14) .skip (.exit 0)) (.seq (.block 1 (.seq (.reg [⟨some 15, none, .mov (.tmp 13)⟩,
    ⟨some 5, none, .mov (.tmp 15)⟩]) (.seq (.draw c33d2) (.cond (.tmp 24) (.seq (.reg [⟨some 4, none, .mov (.const (.bool false))⟩]) .ret) .skip)))) (.reg [⟨some 25, none, .bin .add (.int .i64) (.tmp 13) (.const (.int .i64 1))⟩,
    ⟨some 13, none, .mov (.tmp 25)⟩]))))
def c33 : AC := (.seq (.reg [⟨some 4, none, .mov (.const (.bool false))⟩]) (.seq (.seq (.reg c33r0) (.cond (.tmp 10) (.seq (.reg [⟨some 4, none, .mov (.const (.bool false))⟩]) .ret) .skip)) (.seq (.seq (.reg c33r1) (.block 0 (.loop c33l3))) (.seq (.reg [⟨some 4, none, .mov (.const (.bool true))⟩]) .ret))))
theorem t33 : tabFn 33 = some (26, c33, [.tmp 4]) := by kernel_rfl
/-- slices.EqualFunc[[]sorites/api.Node,[]sorites/api.Node,sorites/api.Node,sorites/api.Node] -/
def c34r0 : List AI := [⟨some 10, none, .mov (.tmp 0)⟩,
  ⟨some 11, none, .len false (.tmp 10)⟩,
  ⟨some 12, none, .mov (.tmp 1)⟩,
  ⟨some 13, none, .len false (.tmp 12)⟩,
  ⟨some 14, none, .bin .neq (.int .i64) (.tmp 11) (.tmp 13)⟩]
def c34r1 : List AI := [⟨some 15, none, .mov (.tmp 0)⟩,
  ⟨some 16, none, .len false (.tmp 15)⟩,
  ⟨some 17, none, .mov (.const (.int .i64 0))⟩]
def c34r2 : List AI := [⟨some 19, none, .mov (.tmp 17)⟩,
  ⟨some 20, none, .iaddr 5 (.tmp 15) (.tmp 17)⟩,
  ⟨some 21, none, .load true 5 (.tmp 20)⟩,
  ⟨some 8, none, .alloc [.sc (.int .i64 0), .sc (.int .i64 0), .sc (.int .i64 0), .sc (.int .i64 0), .sl true []]⟩,
  ⟨some 7, none, .mov (.tmp 19)⟩,
  ⟨none, none, .store 5 (.tmp 8) (.tmp 21)⟩]
def c34r3 : List AI := [⟨some 22, none, .mov (.tmp 1)⟩,
  ⟨some 23, none, .mov (.tmp 7)⟩,
  ⟨some 24, none, .iaddr 5 (.tmp 22) (.tmp 23)⟩,
  ⟨some 25, none, .load true 5 (.tmp 24)⟩,
  ⟨some 9, none, .alloc [.sc (.int .i64 0), .sc (.int .i64 0), .sc (.int .i64 0), .sc (.int .i64 0), .sl true []]⟩,
  ⟨none, none, .store 5 (.tmp 9) (.tmp 25)⟩]
def c34r4 : List AI := [⟨some 26, none, .mov (.tmp 2)⟩,
  ⟨some 27, none, .load true 5 (.tmp 8)⟩,
  ⟨some 28, none, .load true 5 (.tmp 9)⟩,
  ⟨some 29, none, .call (.tmp 26) [(.tmp 27), (.tmp 28)]⟩,
  ⟨some 30, none, .un .not (.tmp 29)⟩]
def c34l5 : AC := (.seq (.reg [⟨some 18, none, .bin .lss (.int .i64) (.tmp 17) (.tmp 16)⟩]) (.seq (.cond (.tmp 18) .skip (.exit 0)) (.seq (.block 1 (.seq (.reg c34r2) (.seq (.reg c34r3) (.seq (.reg c34r4) (.cond (.tmp 30) (.seq (.reg [⟨some 6, none, .mov (.const (.bool false))⟩]) .ret) .skip))))) (.reg [⟨some 31, none, .bin .add (.int .i64) (.tmp 17) (.const (.int .i64 1))⟩,
    ⟨some 17, none, .mov (.tmp 31)⟩]))))
def c34 : AC := (.seq (.reg [⟨some 6, none, .mov (.const (.bool false))⟩]) (.seq (.seq (.reg c34r0) (.cond (.tmp 14) (.seq (.reg [⟨some 6, none, .mov (.const (.bool false))⟩]) .ret) .skip)) (.seq (.seq (.reg c34r1) (.block 0 (.loop c34l5))) (.seq (.reg [⟨some 6, none, .mov (.const (.bool true))⟩]) .ret))))
theorem t34 : tabFn 34 = some (32, c34, [.tmp 6]) := by kernel_rfl
/-- sorites/state.Same$1 -/
def c35r0 : List AI := [⟨some 2, none, .box (.tmp 0)⟩,
  ⟨some 3, none, .box (.tmp 1)⟩,
  ⟨some 4, none, .mov (.const (.bool false))⟩]
def c35r1 : List AI := [⟨some 5, none, .faddr 0 (.tmp 2)⟩,
  ⟨some 6, none, .load false 1 (.tmp 5)⟩,
  ⟨some 7, none, .faddr 0 (.tmp 3)⟩,
  ⟨some 8, none, .load false 1 (.tmp 7)⟩,
  ⟨some 9, none, .bin .eql (.int .i64) (.tmp 6) (.tmp 8)⟩,
  ⟨some 10, none, .mov (.tmp 9)⟩,
  ⟨some 11, some (10, true), .faddr 1 (.tmp 2)⟩,
  ⟨some 12, some (10, true), .load false 1 (.tmp 11)⟩,
  ⟨some 13, some (10, true), .faddr 1 (.tmp 3)⟩,
  ⟨some 14, some (10, true), .load false 1 (.tmp 13)⟩,
  ⟨some 15, some (10, true), .bin .eql (.int .i64) (.tmp 12) (.tmp 14)⟩,
  ⟨some 16, none, .pick (.tmp 10) (.tmp 15) (.const (.bool false))⟩,
  ⟨some 17, none, .mov (.tmp 16)⟩,
  ⟨some 18, some (17, true), .faddr 2 (.tmp 2)⟩,
  ⟨some 19, some (17, true), .load false 1 (.tmp 18)⟩,
  ⟨some 20, some (17, true), .faddr 2 (.tmp 3)⟩,
  ⟨some 21, some (17, true), .load false 1 (.tmp 20)⟩,
  ⟨some 22, some (17, true), .bin .eql (.int .i64) (.tmp 19) (.tmp 21)⟩,
  ⟨some 23, none, .pick (.tmp 17) (.tmp 22) (.const (.bool false))⟩,
  ⟨some 24, none, .mov (.tmp 23)⟩,
  ⟨some 25, some (24, true), .faddr 3 (.tmp 2)⟩,
  ⟨some 26, some (24, true), .load false 1 (.tmp 25)⟩,
  ⟨some 27, some (24, true), .faddr 3 (.tmp 3)⟩,
  ⟨some 28, some (24, true), .load false 1 (.tmp 27)⟩,
  ⟨some 29, some (24, true), .bin .eql (.int .i64) (.tmp 26) (.tmp 28)⟩,
  ⟨some 30, none, .pick (.tmp 24) (.tmp 29) (.const (.bool false))⟩,
  ⟨some 31, none, .mov (.tmp 30)⟩,
  ⟨some 32, some (31, true), .faddr 4 (.tmp 2)⟩,
  ⟨some 33, some (31, true), .load false 1 (.tmp 32)⟩,
  ⟨some 34, some (31, true), .faddr 4 (.tmp 3)⟩,
  ⟨some 35, some (31, true), .load false 1 (.tmp 34)⟩,
  ⟨some 36, some (31, true), .call (.func 36) [(.tmp 33), (.tmp 35)]⟩,
  ⟨some 37, none, .pick (.tmp 31) (.tmp 36) (.const (.bool false))⟩,
  ⟨some 4, none, .mov (.tmp 37)⟩]
def c35 : AC := (.seq (.reg c35r0) (.seq (.reg c35r1) .ret))
theorem t35 : tabFn 35 = some (38, c35, [.tmp 4]) := by kernel_rfl
/-- sorites/clause.Same -/
def c36r0 : List AI := [⟨some 5, none, .mov (.tmp 0)⟩,
  ⟨some 6, none, .mov (.tmp 1)⟩,
  ⟨some 7, none, .call (.func 70) [(.tmp 5), (.tmp 6), (.func 71)]⟩,
  ⟨some 4, none, .mov (.tmp 7)⟩]
def c36 : AC := (.seq (.reg [⟨some 4, none, .mov (.const (.bool false))⟩]) (.seq (.reg c36r0) .ret))
theorem t36 : tabFn 36 = some (8, c36, [.tmp 4]) := by kernel_rfl
/-- slices.EqualFunc[sorites/api.Clause,sorites/api.Clause,sorites/api.Lit,sorites/api.Lit] -/
def c70r0 : List AI := [⟨some 10, none, .mov (.tmp 0)⟩,
  ⟨some 11, none, .len false (.tmp 10)⟩,
  ⟨some 12, none, .mov (.tmp 1)⟩,
  ⟨some 13, none, .len false (.tmp 12)⟩,
  ⟨some 14, none, .bin .neq (.int .i64) (.tmp 11) (.tmp 13)⟩]
def c70r1 : List AI := [⟨some 15, none, .mov (.tmp 0)⟩,
  ⟨some 16, none, .len false (.tmp 15)⟩,
  ⟨some 17, none, .mov (.const (.int .i64 0))⟩]
def c70r2 : List AI := [⟨some 19, none, .mov (.tmp 17)⟩,
  ⟨some 20, none, .iaddr 5 (.tmp 15) (.tmp 17)⟩,
  ⟨some 21, none, .load true 5 (.tmp 20)⟩,
  ⟨some 8, none, .alloc [.sc (.bool false), .sc (.int .i64 0), .sl true [], .sc (.int .i64 0), .sl true []]⟩,
  ⟨some 7, none, .mov (.tmp 19)⟩,
  ⟨none, none, .store 5 (.tmp 8) (.tmp 21)⟩]
def c70r3 : List AI := [⟨some 22, none, .mov (.tmp 1)⟩,
  ⟨some 23, none, .mov (.tmp 7)⟩,
  ⟨some 24, none, .iaddr 5 (.tmp 22) (.tmp 23)⟩,
  ⟨some 25, none, .load true 5 (.tmp 24)⟩,
  ⟨some 9, none, .alloc [.sc (.bool false), .sc (.int .i64 0), .sl true [], .sc (.int .i64 0), .sl true []]⟩,
  ⟨none, none, .store 5 (.tmp 9) (.tmp 25)⟩]
def c70r4 : List AI := [⟨some 26, none, .mov (.tmp 2)⟩,
  ⟨some 27, none, .load true 5 (.tmp 8)⟩,
  ⟨some 28, none, .load true 5 (.tmp 9)⟩,
  ⟨some 29, none, .call (.tmp 26) [(.tmp 27), (.tmp 28)]⟩,
  ⟨some 30, none, .un .not (.tmp 29)⟩]
def c70l5 : AC := (.seq (.reg [⟨some 18, none, .bin .lss (.int .i64) (.tmp 17) (.tmp 16)⟩]) (.seq (.cond (.tmp 18) .skip (.exit 0)) (.seq (.block 1 (.seq (.reg c70r2) (.seq (.reg c70r3) (.seq (.reg c70r4) (.cond (.tmp 30) (.seq (.reg [⟨some 6, none, .mov (.const (.bool false))⟩]) .ret) .skip))))) (.reg [⟨some 31, none, .bin .add (.int .i64) (.tmp 17) (.const (.int .i64 1))⟩,
    ⟨some 17, none, .mov (.tmp 31)⟩]))))
def c70 : AC := (.seq (.reg [⟨some 6, none, .mov (.const (.bool false))⟩]) (.seq (.seq (.reg c70r0) (.cond (.tmp 14) (.seq (.reg [⟨some 6, none, .mov (.const (.bool false))⟩]) .ret) .skip)) (.seq (.seq (.reg c70r1) (.block 0 (.loop c70l5))) (.seq (.reg [⟨some 6, none, .mov (.const (.bool true))⟩]) .ret))))
theorem t70 : tabFn 70 = some (32, c70, [.tmp 6]) := by kernel_rfl
/-- sorites/clause.same -/
def c71r0 : List AI := [⟨some 2, none, .box (.tmp 0)⟩,
  ⟨some 3, none, .box (.tmp 1)⟩,
  ⟨some 4, none, .mov (.const (.bool false))⟩]
def c71r1 : List AI := [⟨some 5, none, .faddr 0 (.tmp 2)⟩,
  ⟨some 6, none, .load false 1 (.tmp 5)⟩,
  ⟨some 7, none, .faddr 0 (.tmp 3)⟩,
  ⟨some 8, none, .load false 1 (.tmp 7)⟩,
  ⟨some 9, none, .bin .eql .bool (.tmp 6) (.tmp 8)⟩,
  ⟨some 10, none, .mov (.tmp 9)⟩,
  ⟨some 11, some (10, true), .faddr 1 (.tmp 2)⟩,
  ⟨some 12, some (10, true), .load true 2 (.tmp 11)⟩,
  ⟨some 13, some (10, true), .faddr 1 (.tmp 3)⟩,
  ⟨some 14, some (10, true), .load true 2 (.tmp 13)⟩,
  ⟨some 15, some (10, true), .call (.func 105) [(.tmp 12), (.tmp 14)]⟩,
  ⟨some 16, none, .pick (.tmp 10) (.tmp 15) (.const (.bool false))⟩,
  ⟨some 17, none, .mov (.tmp 16)⟩,
  ⟨some 18, some (17, true), .faddr 3 (.tmp 2)⟩,
  ⟨some 19, some (17, true), .load true 2 (.tmp 18)⟩,
  ⟨some 20, some (17, true), .faddr 3 (.tmp 3)⟩,
  ⟨some 21, some (17, true), .load true 2 (.tmp 20)⟩,
  ⟨some 22, some (17, true), .call (.func 105) [(.tmp 19), (.tmp 21)]⟩,
  ⟨some 23, none, .pick (.tmp 17) (.tmp 22) (.const (.bool false))⟩,
  ⟨some 4, none, .mov (.tmp 23)⟩]
def c71 : AC := (.seq (.reg c71r0) (.seq (.reg c71r1) .ret))
theorem t71 : tabFn 71 = some (24, c71, [.tmp 4]) := by kernel_rfl
/-- sorites/term.Same -/
def c105r0 : List AI := [⟨some 2, none, .box (.tmp 0)⟩,
  ⟨some 3, none, .box (.tmp 1)⟩,
  ⟨some 4, none, .mov (.const (.bool false))⟩]
def c105r1 : List AI := [⟨some 5, none, .load true 2 (.tmp 2)⟩,
  ⟨some 6, none, .load true 2 (.tmp 3)⟩,
  ⟨some 7, none, .call (.func 131) [(.tmp 5), (.tmp 6)]⟩,
  ⟨some 8, none, .bin .eql (.int .i64) (.tmp 7) (.const (.int .i64 0))⟩,
  ⟨some 4, none, .mov (.tmp 8)⟩]
def c105 : AC := (.seq (.reg c105r0) (.seq (.reg c105r1) .ret))
theorem t105 : tabFn 105 = some (9, c105, [.tmp 4]) := by kernel_rfl
/-- cmp.Or[int] -/
def c128r0 : List AI := [⟨some 6, none, .mov (.tmp 0)⟩,
  ⟨some 7, none, .len false (.tmp 6)⟩,
  ⟨some 8, none, .mov (.const (.int .i64 0))⟩]
def c128r1 : List AI := [⟨some 10, none, .iaddr 1 (.tmp 6) (.tmp 8)⟩,
  ⟨some 11, none, .load false 1 (.tmp 10)⟩,
  ⟨some 5, none, .mov (.tmp 11)⟩]
def c128r2 : List AI := [⟨some 12, none, .mov (.tmp 5)⟩,
  ⟨some 13, none, .mov (.tmp 3)⟩,
  ⟨some 14, none, .bin .neq (.int .i64) (.tmp 12) (.tmp 13)⟩]
def c128l3 : AC := (.seq (.reg [⟨some 9, none, .bin .lss (.int .i64) (.tmp 8) (.tmp 7)⟩]) (.seq (.cond (.tmp 9) .skip (.exit 0)) (.seq (.block 1 (.seq (.reg c128r1) (.seq (.reg c128r2) (.cond (.tmp 14) (.seq (.reg [⟨some 15, none, .mov (.tmp 5)⟩,
    ⟨some 2, none, .mov (.tmp 15)⟩]) .ret) .skip)))) (.reg [⟨some 16, none, .bin .add (.int .i64) (.tmp 8) (.const (.int .i64 1))⟩,
    ⟨some 8, none, .mov (.tmp 16)⟩]))))
def c128 : AC := (.seq (.reg [⟨some 2, none, .mov (.const (.int .i64 0))⟩]) (.seq (.reg [⟨some 3, none, .mov (.const (.int .i64 0))⟩]) (.seq (.seq (.reg c128r0) (.block 0 (.loop c128l3))) (.seq (.reg [⟨some 17, none, .mov (.tmp 3)⟩,
    ⟨some 2, none, .mov (.tmp 17)⟩]) .ret))))
theorem t128 : tabFn 128 = some (18, c128, [.tmp 2]) := by kernel_rfl
/-- cmp.Compare[int] -/
def c129r0 : List AI := [⟨some 7, none, .mov (.tmp 0)⟩,
  ⟨some 8, none, .call (.func 177) [(.tmp 7)]⟩,
  ⟨some 5, none, .mov (.tmp 8)⟩]
def c129r1 : List AI := [⟨some 9, none, .mov (.tmp 1)⟩,
  ⟨some 10, none, .call (.func 177) [(.tmp 9)]⟩,
  ⟨some 6, none, .mov (.tmp 10)⟩]
def c129r2 : List AI := [⟨some 14, none, .mov (.tmp 0)⟩,
  ⟨some 15, none, .mov (.tmp 1)⟩,
  ⟨some 16, none, .bin .lss (.int .i64) (.tmp 14) (.tmp 15)⟩]
def c129r3 : List AI := [⟨some 17, none, .mov (.tmp 0)⟩,
  ⟨some 18, none, .mov (.tmp 1)⟩,
  ⟨some 19, none, .bin .gtr (.int .i64) (.tmp 17) (.tmp 18)⟩]
def c129 : AC := (.seq (.reg [⟨some 4, none, .mov (.const (.int .i64 0))⟩]) (.seq (.reg c129r0) (.seq (.reg c129r1) (.seq (.seq (.reg [⟨some 11, none, .mov (.tmp 5)⟩]) (.cond (.tmp 11) (.seq (.seq (.reg [⟨some 12, none, .mov (.tmp 6)⟩]) (.cond (.tmp 12) (.seq (.reg [⟨some 4, none, .mov (.const (.int .i64 0))⟩]) .ret) .skip)) (.seq (.reg [⟨some 4, none, .mov (.const (.int .i64 (-1)))⟩]) .ret)) .skip)) (.seq (.seq (.reg [⟨some 13, none, .mov (.tmp 6)⟩]) (.cond (.tmp 13) (.seq (.reg [⟨some 4, none, .mov (.const (.int .i64 1))⟩]) .ret) .skip)) (.seq (.seq (.reg c129r2) (.cond (.tmp 16) (.seq (.reg [⟨some 4, none, .mov (.const (.int .i64 (-1)))⟩]) .ret) .skip)) (.seq (.seq (.reg c129r3) (.cond (.tmp 19) (.seq (.reg [⟨some 4, none, .mov (.const (.int .i64 1))⟩]) .ret) .skip)) (.seq (.reg [⟨some 4, none, .mov (.const (.int .i64 0))⟩]) .ret))))))))
theorem t129 : tabFn 129 = some (20, c129, [.tmp 4]) := by kernel_rfl
/-- sorites/term.Compare -/
def c131r0 : List AI := [⟨some 2, none, .box (.tmp 0)⟩,
  ⟨some 3, none, .box (.tmp 1)⟩,
  ⟨some 4, none, .mov (.const (.int .i64 0))⟩]
def c131r1 : List AI := [⟨some 5, none, .faddr 0 (.tmp 2)⟩,
  ⟨some 6, none, .load false 1 (.tmp 5)⟩,
  ⟨some 7, none, .bin .lss (.int .i64) (.tmp 6) (.const (.int .i64 0))⟩,
  ⟨some 8, none, .mov (.tmp 7)⟩,
  ⟨some 9, some (8, false), .faddr 0 (.tmp 3)⟩,
  ⟨some 10, some (8, false), .load false 1 (.tmp 9)⟩,
  ⟨some 11, some (8, false), .bin .lss (.int .i64) (.tmp 10) (.const (.int .i64 0))⟩,
  ⟨some 12, none, .pick (.tmp 8) (.const (.bool true)) (.tmp 11)⟩]
def c131r2 : List AI := [⟨some 13, none, .faddr 0 (.tmp 2)⟩,
  ⟨some 14, none, .load false 1 (.tmp 13)⟩,
  ⟨some 15, none, .bin .lss (.int .i64) (.tmp 14) (.const (.int .i64 0))⟩,
  ⟨some 16, none, .mov (.tmp 15)⟩,
  ⟨some 17, some (16, true), .faddr 0 (.tmp 3)⟩,
  ⟨some 18, some (16, true), .load false 1 (.tmp 17)⟩,
  ⟨some 19, some (16, true), .bin .lss (.int .i64) (.tmp 18) (.const (.int .i64 0))⟩,
  ⟨some 20, none, .pick (.tmp 16) (.tmp 19) (.const (.bool false))⟩]
def c131r3 : List AI := [⟨some 21, none, .faddr 0 (.tmp 3)⟩,
  ⟨some 22, none, .load false 1 (.tmp 21)⟩,
  ⟨some 23, none, .faddr 0 (.tmp 2)⟩,
  ⟨some 24, none, .load false 1 (.tmp 23)⟩,
  ⟨some 25, none, .call (.func 129) [(.tmp 22), (.tmp 24)]⟩,
  ⟨some 4, none, .mov (.tmp 25)⟩]
def c131r4 : List AI := [⟨some 26, none, .faddr 0 (.tmp 2)⟩,
  ⟨some 27, none, .load false 1 (.tmp 26)⟩,
  ⟨some 28, none, .faddr 0 (.tmp 3)⟩,
  ⟨some 29, none, .load false 1 (.tmp 28)⟩,
  ⟨some 30, none, .call (.func 129) [(.tmp 27), (.tmp 29)]⟩,
  ⟨some 4, none, .mov (.tmp 30)⟩]
def c131d5 : List DI := [⟨⟨some 31, none, .faddr 0 (.tmp 2)⟩, 0, 0, 0⟩,
  ⟨⟨some 32, none, .load false 1 (.tmp 31)⟩, 1, 0, 0⟩,
  ⟨⟨some 33, none, .faddr 0 (.tmp 3)⟩, 0, 0, 0⟩,
  ⟨⟨some 34, none, .load false 1 (.tmp 33)⟩, 1, 0, 0⟩,
  ⟨⟨some 35, none, .call (.func 129) [(.tmp 32), (.tmp 34)]⟩, 2, 0, 0⟩,
  ⟨⟨some 36, none, .faddr 1 (.tmp 2)⟩, 0, 0, 0⟩,
  ⟨⟨some 37, none, .load false 1 (.tmp 36)⟩, 1, 1, 0⟩,
  ⟨⟨some 38, none, .len false (.tmp 37)⟩, 1, 1, 0⟩,
  ⟨⟨some 39, none, .faddr 1 (.tmp 3)⟩, 0, 0, 0⟩,
  ⟨⟨some 40, none, .load false 1 (.tmp 39)⟩, 1, 1, 0⟩,
  ⟨⟨some 41, none, .len false (.tmp 40)⟩, 1, 1, 0⟩,
  ⟨⟨some 42, none, .call (.func 129) [(.tmp 38), (.tmp 41)]⟩, 2, 0, 0⟩,
  ⟨⟨some 43, none, .faddr 1 (.tmp 2)⟩, 0, 0, 0⟩,
  ⟨⟨some 44, none, .load false 1 (.tmp 43)⟩, 1, 2, 0⟩,
  ⟨⟨some 45, none, .faddr 1 (.tmp 3)⟩, 0, 0, 0⟩,
  ⟨⟨some 46, none, .load false 1 (.tmp 45)⟩, 1, 2, 0⟩,
  ⟨⟨some 47, none, .call (.func 178) [(.tmp 44), (.tmp 46), (.func 131)]⟩, 2, 0, 0⟩,
  ⟨⟨some 48, none, .mksl 3 1 [(.tmp 35), (.tmp 42), (.tmp 47)]⟩, 0, 0, 0⟩,
  ⟨⟨some 49, none, .call (.func 128) [(.tmp 48)]⟩, 2, 0, 0⟩,
  ⟨⟨some 4, none, .mov (.tmp 49)⟩, 0, 0, 0⟩]
def c131 : AC := (.seq (.reg c131r0) (.seq (.seq (.reg c131r1) (.cond (.tmp 12) (.seq (.seq (.reg c131r2) (.cond (.tmp 20) (.seq (.reg c131r3) .ret) .skip)) (.seq (.reg c131r4) .ret)) .skip)) (.seq (.draw c131d5) .ret)))
theorem t131 : tabFn 131 = some (50, c131, [.tmp 4]) := by kernel_rfl
/-- cmp.isNaN[int] -/
def c177r0 : List AI := [⟨some 3, none, .mov (.tmp 0)⟩,
  ⟨some 4, none, .mov (.tmp 0)⟩,
  ⟨some 5, none, .bin .neq (.int .i64) (.tmp 3) (.tmp 4)⟩,
  ⟨some 2, none, .mov (.tmp 5)⟩]
def c177 : AC := (.seq (.reg [⟨some 2, none, .mov (.const (.bool false))⟩]) (.seq (.reg c177r0) .ret))
theorem t177 : tabFn 177 = some (6, c177, [.tmp 2]) := by kernel_rfl
/-- slices.CompareFunc[[]sorites/api.T,[]sorites/api.T,sorites/api.T,sorites/api.T] -/
def c178r0 : List AI := [⟨some 11, none, .mov (.tmp 0)⟩,
  ⟨some 12, none, .len false (.tmp 11)⟩,
  ⟨some 13, none, .mov (.const (.int .i64 0))⟩]
def c178r1 : List AI := [⟨some 15, none, .mov (.tmp 13)⟩,
  ⟨some 16, none, .iaddr 2 (.tmp 11) (.tmp 13)⟩,
  ⟨some 17, none, .load true 2 (.tmp 16)⟩,
  ⟨some 8, none, .alloc [.sc (.int .i64 0), .sl true []]⟩,
  ⟨some 7, none, .mov (.tmp 15)⟩,
  ⟨none, none, .store 2 (.tmp 8) (.tmp 17)⟩]
def c178r2 : List AI := [⟨some 18, none, .mov (.tmp 7)⟩,
  ⟨some 19, none, .mov (.tmp 1)⟩,
  ⟨some 20, none, .len false (.tmp 19)⟩,
  ⟨some 21, none, .bin .geq (.int .i64) (.tmp 18) (.tmp 20)⟩]
def c178r3 : List AI := [⟨some 22, none, .mov (.tmp 1)⟩,
  ⟨some 23, none, .mov (.tmp 7)⟩,
  ⟨some 24, none, .iaddr 2 (.tmp 22) (.tmp 23)⟩,
  ⟨some 25, none, .load true 2 (.tmp 24)⟩,
  ⟨some 9, none, .alloc [.sc (.int .i64 0), .sl true []]⟩,
  ⟨none, none, .store 2 (.tmp 9) (.tmp 25)⟩]
def c178r4 : List AI := [⟨some 26, none, .mov (.tmp 2)⟩,
  ⟨some 27, none, .load true 2 (.tmp 8)⟩,
  ⟨some 28, none, .load true 2 (.tmp 9)⟩,
  ⟨some 29, none, .call (.tmp 26) [(.tmp 27), (.tmp 28)]⟩,
  ⟨some 10, none, .mov (.tmp 29)⟩]
def c178l5 : AC := (.seq (.reg [⟨some 14, none, .bin .lss (.int .i64) (.tmp 13) (.tmp 12)⟩]) (.seq (.cond (.tmp 14) .skip (.exit 0)) (.seq (.block 1 (.seq (.reg c178r1) (.seq (.seq (.reg c178r2) (.cond (.tmp 21) (.seq (.reg [⟨some 6, none, .mov (.const (.int .i64 1))⟩]) .ret) .skip)) (.seq (.reg c178r3) (.seq (.reg c178r4) (.seq (.reg [⟨some 30, none, .mov (.tmp 10)⟩,
    ⟨some 31, none, .bin .neq (.int .i64) (.tmp 30) (.const (.int .i64 0))⟩]) (.cond (.tmp 31) (.seq (.reg [⟨some 32, none, .mov (.tmp 10)⟩,
    ⟨some 6, none, .mov (.tmp 32)⟩]) .ret) .skip))))))) (.reg [⟨some 33, none, .bin .add (.int .i64) (.tmp 13) (.const (.int .i64 1))⟩,
    ⟨some 13, none, .mov (.tmp 33)⟩]))))
def c178r6 : List AI := [⟨some 34, none, .mov (.tmp 0)⟩,
  ⟨some 35, none, .len false (.tmp 34)⟩,
  ⟨some 36, none, .mov (.tmp 1)⟩,
  ⟨some 37, none, .len false (.tmp 36)⟩,
  ⟨some 38, none, .bin .lss (.int .i64) (.tmp 35) (.tmp 37)⟩]
def c178 : AC := (.seq (.reg [⟨some 6, none, .mov (.const (.int .i64 0))⟩]) (.seq (.seq (.reg c178r0) (.block 0 (.loop c178l5))) (.seq (.seq (.reg c178r6) (.cond (.tmp 38) (.seq (.reg [⟨some 6, none, .mov (.const (.int .i64 (-1)))⟩]) .ret) .skip)) (.seq (.reg [⟨some 6, none, .mov (.const (.int .i64 0))⟩]) .ret))))
theorem t178 : tabFn 178 = some (39, c178, [.tmp 6]) := by kernel_rfl
/-- sorites/soriteslaw24.ProofBytes -/
def c4r0 : List AI := [⟨some 15, none, .mov (.tmp 0)⟩,
  ⟨some 16, none, .call (.func 12) [(.tmp 15)]⟩,
  ⟨some 17, none, .un .not (.tmp 16)⟩,
  ⟨some 18, none, .mov (.tmp 17)⟩,
  ⟨some 19, some (18, false), .mov (.tmp 1)⟩,
  ⟨some 20, some (18, false), .len false (.tmp 19)⟩,
  ⟨some 21, some (18, false), .bin .gtr (.int .i64) (.tmp 20) (.const (.int .i64 400))⟩,
  ⟨some 22, none, .pick (.tmp 18) (.const (.bool true)) (.tmp 21)⟩]
def c4r1 : List AI := [⟨some 23, none, .mov (.tmp 6)⟩,
  ⟨some 24, none, .mov (.tmp 0)⟩,
  ⟨some 25, none, .len false (.tmp 24)⟩,
  ⟨some 26, none, .bin .lss (.int .i64) (.tmp 23) (.tmp 25)⟩]
def c4r2 : List AI := [⟨some 29, none, .mov (.tmp 5)⟩,
  ⟨some 30, none, .mov (.tmp 0)⟩,
  ⟨some 31, none, .mov (.tmp 6)⟩,
  ⟨some 32, none, .iaddr 7 (.tmp 30) (.tmp 31)⟩,
  ⟨some 33, none, .faddr 2 (.tmp 32)⟩,
  ⟨some 34, none, .load true 5 (.tmp 33)⟩,
  ⟨some 35, none, .mksl 50 5 [(.tmp 34)]⟩,
  ⟨some 36, none, .app 50 5 56 (.tmp 29) (.tmp 35)⟩,
  ⟨some 5, none, .mov (.tmp 36)⟩]
def c4r3 : List AI := [⟨some 27, none, .mov (.tmp 6)⟩,
  ⟨some 28, none, .bin .add (.int .i64) (.tmp 27) (.const (.int .i64 1))⟩,
  ⟨some 6, none, .mov (.tmp 28)⟩]
def c4l4 : AC := (.seq (.seq (.reg c4r1) (.cond (.tmp 26) .skip (.exit 0))) (.seq (.block 1 (.reg c4r2)) (.reg c4r3)))
def c4r5 : List AI := [⟨some 37, none, .mov (.tmp 5)⟩,
  ⟨some 38, none, .call (.func 13) [(.tmp 37)]⟩,
  ⟨some 7, none, .mov (.tmp 38)⟩]
def c4r6 : List AI := [⟨some 39, none, .mov (.tmp 7)⟩,
  ⟨some 40, none, .call (.func 14) [(.tmp 39)]⟩,
  ⟨some 8, none, .mov (.tmp 40)⟩]
def c4r7 : List AI := [⟨some 42, none, .mov (.tmp 8)⟩,
  ⟨some 43, none, .call (.func 15) [(.tmp 42)]⟩,
  ⟨some 41, none, .mov (.tmp 43)⟩,
  ⟨some 44, none, .ext (.tmp 41) 0⟩,
  ⟨some 45, none, .ext (.tmp 41) 1⟩,
  ⟨some 9, none, .mov (.tmp 44)⟩,
  ⟨some 10, none, .mov (.tmp 45)⟩]
def c4r8 : List AI := [⟨some 46, none, .mov (.tmp 10)⟩,
  ⟨some 47, none, .cvi .i64 (.tmp 46)⟩,
  ⟨some 48, none, .bin .neq (.int .i64) (.tmp 47) (.const (.int .i64 0))⟩,
  ⟨some 49, none, .mov (.tmp 48)⟩,
  ⟨some 50, some (49, false), .mov (.tmp 9)⟩,
  ⟨some 51, some (49, false), .len false (.tmp 50)⟩,
  ⟨some 52, some (49, false), .mov (.tmp 7)⟩,
  ⟨some 53, some (49, false), .len false (.tmp 52)⟩,
  ⟨some 54, some (49, false), .bin .neq (.int .i64) (.tmp 51) (.tmp 53)⟩,
  ⟨some 55, none, .pick (.tmp 49) (.const (.bool true)) (.tmp 54)⟩,
  ⟨some 56, none, .mov (.tmp 55)⟩,
  ⟨some 57, some (56, false), .mov (.tmp 7)⟩,
  ⟨some 58, some (56, false), .build [.sc (.int .i64 0), .sc (.int .i64 0), .sc (.int .i64 0), .sc (.int .i64 0), .sc (.bool false), .sl true [], .sl true [], .sl true []] [(5, 1, (.tmp 57))]⟩,
  ⟨some 59, some (56, false), .mov (.tmp 9)⟩,
  ⟨some 60, some (56, false), .build [.sc (.int .i64 0), .sc (.int .i64 0), .sc (.int .i64 0), .sc (.int .i64 0), .sc (.bool false), .sl true [], .sl true [], .sl true []] [(5, 1, (.tmp 59))]⟩,
  ⟨some 61, some (56, false), .call (.func 16) [(.tmp 58), (.tmp 60)]⟩,
  ⟨some 62, some (56, false), .un .not (.tmp 61)⟩,
  ⟨some 63, none, .pick (.tmp 56) (.const (.bool true)) (.tmp 62)⟩]
def c4r9 : List AI := [⟨some 65, none, .mov (.tmp 1)⟩,
  ⟨some 66, none, .call (.func 15) [(.tmp 65)]⟩,
  ⟨some 64, none, .mov (.tmp 66)⟩,
  ⟨some 67, none, .ext (.tmp 64) 0⟩,
  ⟨some 68, none, .ext (.tmp 64) 1⟩,
  ⟨some 11, none, .mov (.tmp 67)⟩,
  ⟨some 12, none, .mov (.tmp 68)⟩]
def c4r10 : List AI := [⟨some 69, none, .mov (.tmp 12)⟩,
  ⟨some 70, none, .cvi .i64 (.tmp 69)⟩,
  ⟨some 71, none, .bin .eql (.int .i64) (.tmp 70) (.const (.int .i64 0))⟩]
def c4r11 : List AI := [⟨some 72, none, .mov (.tmp 11)⟩,
  ⟨some 73, none, .call (.func 14) [(.tmp 72)]⟩,
  ⟨some 74, none, .mov (.tmp 1)⟩,
  ⟨some 75, none, .call (.func 17) [(.tmp 73), (.tmp 74)]⟩,
  ⟨some 4, none, .mov (.tmp 75)⟩]
def c4r12 : List AI := [⟨some 76, none, .mov (.tmp 11)⟩,
  ⟨some 77, none, .len false (.tmp 76)⟩,
  ⟨some 78, none, .bin .eql (.int .i64) (.tmp 77) (.const (.int .i64 0))⟩,
  ⟨some 79, none, .mov (.tmp 78)⟩,
  ⟨some 80, some (79, true), .mov (.tmp 12)⟩,
  ⟨some 81, some (79, true), .cvi .i64 (.tmp 80)⟩,
  ⟨some 82, some (79, true), .bin .eql (.int .i64) (.tmp 81) (.const (.int .i64 7))⟩,
  ⟨some 83, some (79, true), .mov (.tmp 82)⟩,
  ⟨some 84, some (83, false), .mov (.tmp 12)⟩,
  ⟨some 85, some (83, false), .cvi .i64 (.tmp 84)⟩,
  ⟨some 86, some (83, false), .bin .eql (.int .i64) (.tmp 85) (.const (.int .i64 10))⟩,
  ⟨some 87, some (79, true), .pick (.tmp 83) (.const (.bool true)) (.tmp 86)⟩,
  ⟨some 88, none, .pick (.tmp 79) (.tmp 87) (.const (.bool false))⟩,
  ⟨some 4, none, .mov (.tmp 88)⟩]
def c4 : AC := (.seq (.reg [⟨some 4, none, .mov (.const (.bool false))⟩]) (.seq (.seq (.reg [⟨some 13, none, .call (.func 5) []⟩,
    ⟨some 14, none, .un .not (.tmp 13)⟩]) (.cond (.tmp 14) (.seq (.reg [⟨some 4, none, .mov (.const (.bool false))⟩]) .ret) .skip)) (.seq (.seq (.reg c4r0) (.cond (.tmp 22) (.seq (.reg [⟨some 4, none, .mov (.const (.bool true))⟩]) .ret) .skip)) (.seq (.reg [⟨some 5, none, .mov (.const (.slice none 0 0))⟩]) (.seq (.seq (.reg [⟨some 6, none, .mov (.const (.int .i64 0))⟩]) (.block 0 (.loop c4l4))) (.seq (.reg c4r5) (.seq (.reg c4r6) (.seq (.reg c4r7) (.seq (.seq (.reg c4r8) (.cond (.tmp 63) (.seq (.reg [⟨some 4, none, .mov (.const (.bool false))⟩]) .ret) .skip)) (.seq (.reg c4r9) (.seq (.seq (.reg c4r10) (.cond (.tmp 71) (.seq (.reg c4r11) .ret) .skip)) (.seq (.reg c4r12) .ret))))))))))))
theorem t4 : tabFn 4 = some (89, c4, [.tmp 4]) := by kernel_rfl

end Go.AW
