/- Towards the law: a small language into which the program is turned, its soundness, and what the functions answer: part 3. -/
import Derived.Test.YtgkmheobocnenaaGreatVa02
import Derived.NoCompiler
import Derived.Test.YtgkmheobocnenaaGreatProg
set_option linter.unusedSimpArgs false
set_option linter.unusedVariables false
set_option linter.unusedSectionVars false
set_option linter.unnecessarySimpa false
section
open Go.Proofs
namespace Go.Va
def fn114 : AFn where
 ntmps := 22
 rs := 0
 results := [.cell 6 true 4]
 body := .seq (.reg [
  o1 3 (.box 11 (.t 0)),
  o1 5 (.box 8 (.t 2)),
  o1 6 (.alloc zSys)] false)
  (.seq (.reg [
  oM 7 1,
  oF 8 0 3,
  oF 9 1 8,
  oL 10 9,
  oA 11 8 5,
  oC 12 156 [.t 10, .t 11],
  oF 13 0 3,
  oF 14 2 13,
  ⟨(some 15), .ld false 1 (.t 14), none, [0]⟩,
  ⟨(some 16), .ld true 8 (.t 5), none, [0]⟩,
  oC 17 156 [.t 15, .t 16],
  oF 18 0 3,
  oF 19 3 18,
  ⟨(some 20), .ld false 1 (.t 19), none, [0, 6]⟩,
  o1 21 (.build zSys [(0, 1, (.t 7)), (1, 1, (.t 12)), (2, 1, (.t 17)), (3, 1, (.t 20))]),
  oS 4 6 21] true)
  (.ret))
theorem cfn114 : compFn Tryz.prog 114 = some fn114 := by kernel_rfl
def fn115 : AFn where
 ntmps := 95
 rs := 1
 results := [.tmp 6]
 body := .seq (.reg [
  oV 6 kE] false)
  (.seq (.reg [
  oM 10 0,
  oM 11 1,
  o1 12 (.slcS 1 (.t 10) (some (.t 11)) none none)] false)
  (.seq (.reg [
  oM 13 2,
  oN 14 13,
  oM 7 14] false)
  (.seq (.seq (.reg [
  oM 15 7,
  oK 16 .eql 15 0] false)
  (.cond (.t 16)
  (.seq (.reg [
  oM 17 0,
  oM 6 17] false)
  (.ret))
  (.skip)))
  (.seq (.reg [
  oM 18 0,
  oN 19 18,
  oM 8 19] false)
  (.seq (.seq (.reg [
  oM 20 1,
  oM 21 8,
  oB 22 .eql 20 21] false)
  (.cond (.t 22)
  (.seq (.reg [
  oM 23 0,
  oM 24 2,
  o1 25 (.app 1 16 (.t 23) (.t 24)),
  oM 6 25] false)
  (.ret))
  (.skip)))
  (.seq (.seq (.bad)
  (.cond (.t 31)
  (.seq (.bad)
  (.seq (.reg [
  oM 41 9,
  oM 42 1,
  o1 43 (.slcS 1 (.t 41) (some (.t 42)) none none),
  oM 44 2,
  o1 45 (.cpy 1 (.t 43) (.t 44))] false)
  (.seq (.reg [
  oM 46 9,
  oM 47 1,
  oM 48 7,
  oB 49 .add 47 48,
  o1 50 (.slcS 1 (.t 46) (some (.t 49)) none none),
  oM 51 0,
  oM 52 1,
  o1 53 (.slcS 1 (.t 51) (some (.t 52)) none none),
  o1 54 (.cpy 1 (.t 50) (.t 53))] true)
  (.seq (.reg [
  oM 55 9,
  oM 6 55] false)
  (.ret)))))
  (.skip)))
  (.seq (.reg [
  oM 56 0,
  oM 57 8,
  oM 58 7,
  oB 59 .add 57 58,
  o1 60 (.slcS 1 (.t 56) none (some (.t 59)) none),
  oM 0 60] false)
  (.seq (.seq (.reg [
  oM 61 2,
  oM 62 0,
  oM 63 1,
  oM 64 7,
  oB 65 .add 63 64,
  o1 66 (.slcS 1 (.t 62) (some (.t 65)) none none),
  oC 67 157 [.t 61, .t 66],
  o1 68 (.un .not (.t 67))] false)
  (.cond (.t 68)
  (.seq (.reg [
  oM 69 0,
  oM 70 1,
  oM 71 7,
  oB 72 .add 70 71,
  o1 73 (.slcS 1 (.t 69) (some (.t 72)) none none),
  oM 74 0,
  oM 75 1,
  o1 76 (.slcS 1 (.t 74) (some (.t 75)) none none),
  o1 77 (.cpy 1 (.t 73) (.t 76))] true)
  (.seq (.reg [
  oM 78 0,
  oM 79 1,
  o1 80 (.slcS 1 (.t 78) (some (.t 79)) none none),
  oM 81 2,
  o1 82 (.cpy 1 (.t 80) (.t 81))] false)
  (.seq (.reg [
  oM 83 0,
  oM 6 83] false)
  (.ret))))
  (.skip)))
  (.seq (.reg [
  oM 84 0,
  oM 85 8,
  o1 86 (.slcS 1 (.t 84) (some (.t 85)) none none),
  oM 87 2,
  o1 88 (.cpy 1 (.t 86) (.t 87))] false)
  (.seq (.reg [
  oM 89 0,
  oM 90 1,
  o1 91 (.slcS 1 (.t 89) (some (.t 90)) none none),
  oM 92 7,
  oC 93 158 [.t 91, .t 92]] false)
  (.seq (.reg [
  oM 94 0,
  oM 6 94] false)
  (.ret))))))))))))
theorem cfn115 : compFn Tryz.prog 115 = some fn115 := by kernel_rfl
def fn116 : AFn where
 ntmps := 8
 rs := 1
 results := [.tmp 2]
 body := .seq (.reg [
  oV 2 kE] false)
  (.seq (.seq (.reg [
  oM 3 0,
  o1 4 (.isnil false (.t 3))] false)
  (.cond (.t 4)
  (.seq (.reg [
  oV 2 kE] false)
  (.ret))
  (.skip)))
  (.seq (.reg [
  o1 5 (.bsl 1 0 [(.str ⟨#[]⟩)] []),
  oM 6 0,
  o1 7 (.app 1 16 (.t 5) (.t 6)),
  oM 2 7] false)
  (.ret)))
theorem cfn116 : compFn Tryz.prog 116 = some fn116 := by kernel_rfl
def c117_0 : ACode := .seq (.reg [
  oB 19 .lss 18 17] false)
  (.seq (.cond (.t 19)
  (.skip)
  (.exit 0))
  (.seq (.block 1 (.seq (.reg [
  oM 20 18,
  oI 21 1 16 18,
  oL 22 21,
  oM 7 20,
  oM 8 22] false)
  (.reg [
  oM 23 8,
  oM 24 7,
  o1 25 (.iadA 8 1 (.t 6) (.t 23)),
  oS 1 25 24] false)))
  (.reg [
  oK 26 .add 18 1,
  oM 18 26] false)))
def fn117 : AFn where
 ntmps := 28
 rs := 0
 results := [.cell 4 true 8]
 body := .seq (.reg [
  o1 2 (.box 1 (.t 0)),
  o1 4 (.alloc zMon)] false)
  (.seq (.reg [
  o1 10 (.mkf 161 [] [.t 2]),
  o1 9 (.bsl 1 8 [(.int .i64 0)] [(0, 1, (kI 0)), (1, 1, (kI 1)), (2, 1, (kI 2)), (3, 1, (kI 3)), (4, 1, (kI 4)), (5, 1, (kI 5)), (6, 1, (kI 6)), (7, 1, (kI 7))]),
  oC 11 160 [.t 9, .t 10],
  oM 12 1,
  ⟨(some 13), .ld false 1 (.t 2), none, [0]⟩,
  o1 14 (.bsl 1 1 [(.int .i64 0)] [(0, 1, (.t 13))]),
  oC 15 159 [.t 11, .t 12, .t 14],
  oM 5 15] true)
  (.seq (.reg [
  o1 6 (.alloc zMon)] false)
  (.seq (.seq (.reg [
  oM 16 5,
  oN 17 16,
  oV 18 (.int .i64 0)] false)
  (.block 0 (.loop c117_0)))
  (.seq (.reg [
  oA 27 8 6,
  oS 8 4 27] false)
  (.ret)))))
theorem cfn117 : compFn Tryz.prog 117 = some fn117 := by kernel_rfl
def fn118 : AFn where
 ntmps := 7
 rs := 0
 results := [.tmp 1]
 body := .seq (.reg [
  oV 1 (.bool false)] false)
  (.seq (.reg [
  oA 2 11 0,
  oF 3 4 0,
  oF 4 2 3,
  oL 5 4,
  oC 6 119 [.t 2, .t 5],
  oM 1 6] false)
  (.ret))
theorem cfn118 : compFn Tryz.prog 118 = some fn118 := by kernel_rfl
def fn119 : AFn where
 ntmps := 15
 rs := 0
 results := [.tmp 4]
 body := .seq (.reg [
  o1 2 (.box 11 (.t 0)),
  oV 4 (.bool false)] false)
  (.seq (.reg [
  oM 5 1,
  oK 6 .geq 5 0,
  oM 7 6,
  gd 7 true (oM 8 1),
  gd 7 true (oF 9 0 2),
  gd 7 true (oF 10 0 9),
  gd 7 true (oL 11 10),
  gd 7 true (oN 12 11),
  gd 7 true (oB 13 .lss 8 12),
  o1 14 (.pick (.t 7) (.t 13) kF),
  oM 4 14] false)
  (.ret))
theorem cfn119 : compFn Tryz.prog 119 = some fn119 := by kernel_rfl
def fn120 : AFn where
 ntmps := 19
 rs := 0
 results := [.tmp 2]
 body := .seq (.reg [
  o1 1 (.box 11 (.t 0)),
  oV 2 (.bool false)] false)
  (.seq (.reg [
  o1 4 (.mkf 162 [] [.t 1]),
  oM 3 4] false)
  (.seq (.reg [
  oF 5 0 1,
  oF 6 1 5,
  oL 7 6,
  oM 8 3,
  oC 9 164 [.t 7, .t 8],
  o1 10 (.un .not (.t 9)),
  oM 11 10,
  gd 11 true (oF 12 0 1),
  gd 11 true (oF 13 2 12),
  gd 11 true (oL 14 13),
  gd 11 true (oM 15 3),
  gd 11 true (oC 16 164 [.t 14, .t 15]),
  gd 11 true (o1 17 (.un .not (.t 16))),
  o1 18 (.pick (.t 11) (.t 17) kF),
  oM 2 18] false)
  (.ret)))
theorem cfn120 : compFn Tryz.prog 120 = some fn120 := by kernel_rfl
def fn121 : AFn where
 ntmps := 33
 rs := 1
 results := [.tmp 6]
 body := .seq (.reg [
  oV 6 kE] false)
  (.seq (.reg [
  oM 8 0,
  oM 9 1,
  oM 10 2,
  oM 11 0,
  oN 12 11,
  o1 13 (.slcS 1 (.t 8) (some (.t 9)) (some (.t 10)) (some (.t 12)))] false)
  (.seq (.seq (.reg [
  oM 14 1,
  oM 15 2,
  oB 16 .eql 14 15] false)
  (.cond (.t 16)
  (.seq (.reg [
  oM 17 0,
  oM 6 17] false)
  (.ret))
  (.skip)))
  (.seq (.reg [
  oM 18 0,
  oN 19 18,
  oM 7 19] false)
  (.seq (.reg [
  oM 20 0,
  oM 21 1,
  o1 22 (.slcS 1 (.t 20) none (some (.t 21)) none),
  oM 23 0,
  oM 24 2,
  o1 25 (.slcS 1 (.t 23) (some (.t 24)) none none),
  o1 26 (.app 1 16 (.t 22) (.t 25)),
  oM 0 26] true)
  (.seq (.reg [
  oM 27 0,
  oM 28 0,
  oN 29 28,
  oM 30 7,
  o1 31 (.slcS 1 (.t 27) (some (.t 29)) (some (.t 30)) none),
  o0 (.clr 1 [(.str ⟨#[]⟩)] (.t 31))] false)
  (.seq (.reg [
  oM 32 0,
  oM 6 32] false)
  (.ret)))))))
theorem cfn121 : compFn Tryz.prog 121 = some fn121 := by kernel_rfl
def fn122 : AFn where
 ntmps := 7
 rs := 0
 results := [.tmp 1]
 body := .seq (.reg [
  oV 1 (.bool false)] false)
  (.seq (.reg [
  oA 2 11 0,
  oF 3 4 0,
  oF 4 2 3,
  oL 5 4,
  oC 6 119 [.t 2, .t 5],
  oM 1 6] false)
  (.ret))
theorem cfn122 : compFn Tryz.prog 122 = some fn122 := by kernel_rfl
def fn123 : AFn where
 ntmps := 19
 rs := 0
 results := [.tmp 1]
 body := .seq (.reg [
  oV 1 (.bool false)] false)
  (.seq (.reg [
  oF 2 4 0,
  oF 3 1 2,
  oL 4 3,
  oC 5 112 [.t 4],
  oM 6 5,
  gd 6 true (oA 7 11 0),
  gd 6 true (oC 8 113 [.t 7]),
  gd 6 true (oK 9 .lss 8 0),
  gd 6 true (oM 10 9),
  gd 10 false (oA 11 11 0),
  gd 10 false (oC 12 113 [.t 11]),
  gd 10 false (oF 13 4 0),
  gd 10 false (oF 14 2 13),
  ⟨(some 15), .ld false 1 (.t 14), (some (10, false)), [7]⟩,
  gd 10 false (oB 16 .eql 12 15),
  gd 6 true (o1 17 (.pick (.t 10) kT (.t 16))),
  o1 18 (.pick (.t 6) (.t 17) kF),
  oM 1 18] true)
  (.ret))
theorem cfn123 : compFn Tryz.prog 123 = some fn123 := by kernel_rfl
def fn124 : AFn where
 ntmps := 23
 rs := 0
 results := [.tmp 1]
 body := .seq (.reg [
  oV 1 (.bool false)] false)
  (.seq (.reg [
  oF 2 4 0,
  oF 3 4 2,
  oL 4 3,
  oK 5 .eql 4 0,
  oM 6 5,
  gd 6 false (oF 7 4 0),
  gd 6 false (oF 8 4 7),
  gd 6 false (oL 9 8),
  gd 6 false (oK 10 .gtr 9 0),
  gd 6 false (oM 11 10),
  gd 11 true (oF 12 4 0),
  gd 11 true (oF 13 4 12),
  gd 11 true (oL 14 13),
  gd 11 true (oK 15 .lss 14 1000000),
  gd 6 false (o1 16 (.pick (.t 11) (.t 15) kF)),
  gd 6 false (oM 17 16),
  gd 17 true (oA 18 11 0),
  gd 17 true (oC 19 125 [.t 18]),
  gd 17 true (o1 20 (.un .not (.t 19))),
  gd 6 false (o1 21 (.pick (.t 17) (.t 20) kF)),
  o1 22 (.pick (.t 6) kT (.t 21)),
  oM 1 22] false)
  (.ret))
theorem cfn124 : compFn Tryz.prog 124 = some fn124 := by kernel_rfl
def fn125 : AFn where
 ntmps := 21
 rs := 0
 results := [.tmp 2]
 body := .seq (.reg [
  o1 1 (.box 11 (.t 0)),
  oV 2 (.bool false)] false)
  (.seq (.reg [
  oF 3 0 1,
  oF 4 1 3,
  oL 5 4,
  oF 6 4 1,
  oF 7 4 6,
  oL 8 7,
  oC 9 71 [.t 5, .t 8],
  oK 10 .geq 9 0,
  oM 11 10,
  gd 11 false (oF 12 0 1),
  gd 11 false (oF 13 2 12),
  gd 11 false (oL 14 13),
  gd 11 false (oF 15 4 1),
  gd 11 false (oF 16 4 15),
  gd 11 false (oL 17 16),
  gd 11 false (oC 18 71 [.t 14, .t 17]),
  gd 11 false (oK 19 .geq 18 0),
  o1 20 (.pick (.t 11) kT (.t 19)),
  oM 2 20] false)
  (.ret))
theorem cfn125 : compFn Tryz.prog 125 = some fn125 := by kernel_rfl
def fn126 : AFn where
 ntmps := 20
 rs := 0
 results := [.tmp 2]
 body := .seq (.reg [
  oV 2 (.bool false)] false)
  (.seq (.reg [
  oL 3 0,
  o1 4 (.nilc (.t 3)),
  oL 5 4,
  oN 6 5,
  oK 7 .lss 6 12,
  oM 8 7,
  gd 8 true (oF 9 4 1),
  gd 8 true (oF 10 4 9),
  gd 8 true (oL 11 10),
  gd 8 true (oK 12 .gtr 11 0),
  gd 8 true (oM 13 12),
  gd 13 false (oF 14 0 1),
  gd 13 false (oF 15 3 14),
  gd 13 false (oL 16 15),
  gd 13 false (oK 17 .lss 16 1000000),
  gd 8 true (o1 18 (.pick (.t 13) kT (.t 17))),
  o1 19 (.pick (.t 8) (.t 18) kF),
  oM 2 19] false)
  (.ret))
theorem cfn126 : compFn Tryz.prog 126 = some fn126 := by kernel_rfl
def fn127 : AFn where
 ntmps := 25
 rs := 0
 results := [.tmp 2]
 body := .seq (.reg [
  o1 1 (.box 11 (.t 0)),
  oV 2 (.bool false)] false)
  (.seq (.reg [
  oF 4 4 1,
  oF 5 5 4,
  oL 6 5,
  oM 3 6] false)
  (.seq (.reg [
  oM 7 3,
  oC 8 165 [.t 7],
  oM 9 8,
  gd 9 true (oM 10 3),
  gd 9 true (oC 11 163 [.t 10]),
  gd 9 true (o1 12 (.conv .i64 (.t 11))),
  gd 9 true (oF 13 0 1),
  gd 9 true (oF 14 0 13),
  ⟨(some 15), .ld false 1 (.t 14), (some (9, true)), [2]⟩,
  gd 9 true (oN 16 15),
  gd 9 true (oB 17 .shr 12 16),
  gd 9 true (oK 18 .eql 17 0),
  o1 19 (.pick (.t 9) (.t 18) kF),
  oM 20 19,
  gd 20 true (oM 21 3),
  gd 20 true (oC 22 166 [.t 21]),
  gd 20 true (oK 23 .leq 22 12),
  o1 24 (.pick (.t 20) (.t 23) kF),
  oM 2 24] true)
  (.ret)))
theorem cfn127 : compFn Tryz.prog 127 = some fn127 := by kernel_rfl
def fn128 : AFn where
 ntmps := 23
 rs := 2
 results := [.tmp 4]
 body := .seq (.reg [
  o1 3 (.box 2 (.t 1)),
  oV 4 kE] false)
  (.seq (.reg [
  oM 7 0,
  oF 8 0 3,
  oL 9 8,
  oC 10 129 [.t 7, .t 9],
  oM 5 10] false)
  (.seq (.reg [
  oM 11 5,
  o1 12 (.mkf 167 [] [.t 3]),
  oC 13 139 [.t 11, .t 12],
  oM 6 13] false)
  (.seq (.seq (.reg [
  oM 14 6,
  oK 15 .lss 14 0] false)
  (.cond (.t 15)
  (.reg [
  oM 16 5,
  oN 17 16,
  oM 6 17] false)
  (.skip)))
  (.seq (.reg [
  oM 18 5,
  oM 19 6,
  oA 20 2 3,
  o1 21 (.bsl 2 1 zEq [(0, 2, (.t 20))]),
  oC 22 168 [.t 18, .t 19, .t 21],
  oM 4 22] false)
  (.ret)))))
theorem cfn128 : compFn Tryz.prog 128 = some fn128 := by kernel_rfl
def fn129 : AFn where
 ntmps := 9
 rs := 2
 results := [.tmp 4]
 body := .seq (.reg [
  o1 3 (.box 1 (.t 1)),
  oV 4 kE] false)
  (.seq (.reg [
  oM 5 0,
  oC 6 170 [.t 5],
  o1 7 (.mkf 171 [] [.t 3]),
  oC 8 169 [.t 6, .t 7],
  oM 4 8] false)
  (.ret))
theorem cfn129 : compFn Tryz.prog 129 = some fn129 := by kernel_rfl
def fn130 : AFn where
 ntmps := 24
 rs := 0
 results := [.tmp 3]
 body := .seq (.reg [
  oV 3 (.bool false)] false)
  (.seq (.reg [
  oL 4 0,
  oK 5 .geq 4 0,
  oM 6 5,
  gd 6 true (oF 7 0 1),
  gd 6 true (oF 8 2 7),
  gd 6 true (oL 9 8),
  gd 6 true (oN 10 9),
  gd 6 true (oK 11 .lss 10 12),
  o1 12 (.pick (.t 6) (.t 11) kF),
  oM 13 12,
  gd 13 false (oL 14 2),
  gd 13 false (oK 15 .geq 14 0),
  gd 13 false (oM 16 15),
  gd 16 true (oF 17 0 1),
  gd 16 true (oF 18 1 17),
  gd 16 true (oL 19 18),
  gd 16 true (oN 20 19),
  gd 16 true (oK 21 .lss 20 12),
  gd 13 false (o1 22 (.pick (.t 16) (.t 21) kF)),
  o1 23 (.pick (.t 13) kT (.t 22)),
  oM 3 23] false)
  (.ret))
theorem cfn130 : compFn Tryz.prog 130 = some fn130 := by kernel_rfl
def c131_0 : ACode := .seq (.seq (.reg [
  oM 6 5,
  oF 7 0 2,
  oL 8 7,
  oN 9 8,
  oB 10 .lss 6 9] false)
  (.cond (.t 10)
  (.skip)
  (.exit 0)))
  (.seq (.block 1 (.seq (.reg [
  oF 13 0 2,
  oL 14 13,
  oM 15 5,
  oI 16 1 14 15,
  oL 17 16,
  oM 18 1,
  oB 19 .eql 17 18] false)
  (.cond (.t 19)
  (.seq (.reg [
  oM 20 5,
  oM 4 20] false)
  (.ret))
  (.skip))))
  (.reg [
  oM 11 5,
  oK 12 .add 11 1,
  oM 5 12] false))
def fn131 : AFn where
 ntmps := 21
 rs := 0
 results := [.tmp 4]
 body := .seq (.reg [
  o1 2 (.box 4 (.t 0)),
  oV 4 (.int .i64 0)] false)
  (.seq (.seq (.reg [
  oV 5 (.int .i64 0)] false)
  (.block 0 (.loop c131_0)))
  (.seq (.reg [
  oV 4 (.int .i64 (-1))] false)
  (.ret)))
theorem cfn131 : compFn Tryz.prog 131 = some fn131 := by kernel_rfl
def fn132 : AFn where
 ntmps := 14
 rs := 0
 results := [.tmp 4]
 body := .seq (.reg [
  o1 2 (.box 4 (.t 0)),
  oV 4 (.bool false)] false)
  (.seq (.reg [
  oM 5 1,
  oK 6 .geq 5 0,
  oM 7 6,
  gd 7 true (oM 8 1),
  gd 7 true (oF 9 0 2),
  gd 7 true (oL 10 9),
  gd 7 true (oN 11 10),
  gd 7 true (oB 12 .lss 8 11),
  o1 13 (.pick (.t 7) (.t 12) kF),
  oM 4 13] false)
  (.ret))
theorem cfn132 : compFn Tryz.prog 132 = some fn132 := by kernel_rfl
def c133_0 : ACode := .seq (.seq (.reg [
  oM 7 5,
  oF 8 1 2,
  oL 9 8,
  oN 10 9,
  oB 11 .lss 7 10] false)
  (.cond (.t 11)
  (.skip)
  (.exit 0)))
  (.seq (.block 1 (.seq (.reg [
  oF 14 1 2,
  oL 15 14,
  oM 16 5,
  oI 17 2 15 16,
  oF 18 1 17,
  oL 19 18,
  oC 20 172 [.t 19],
  o1 21 (.conv .i64 (.t 20)),
  oM 22 1,
  oB 23 .shr 21 22,
  oK 24 .rem 23 2,
  oK 25 .eql 24 1] false)
  (.cond (.t 25)
  (.seq (.reg [
  oV 4 (.bool true)] false)
  (.ret))
  (.skip))))
  (.reg [
  oM 12 5,
  oK 13 .add 12 1,
  oM 5 13] false))
def c133_1 : ACode := .seq (.seq (.reg [
  oM 26 6,
  oF 27 2 2,
  oL 28 27,
  oN 29 28,
  oB 30 .lss 26 29] false)
  (.cond (.t 30)
  (.skip)
  (.exit 2)))
  (.seq (.block 3 (.seq (.reg [
  oF 33 2 2,
  oL 34 33,
  oM 35 6,
  oI 36 2 34 35,
  oF 37 1 36,
  oL 38 37,
  oC 39 172 [.t 38],
  o1 40 (.conv .i64 (.t 39)),
  oM 41 1,
  oB 42 .shr 40 41,
  oK 43 .rem 42 2,
  oK 44 .eql 43 1] false)
  (.cond (.t 44)
  (.seq (.reg [
  oV 4 (.bool true)] false)
  (.ret))
  (.skip))))
  (.reg [
  oM 31 6,
  oK 32 .add 31 1,
  oM 6 32] false))
def fn133 : AFn where
 ntmps := 45
 rs := 0
 results := [.tmp 4]
 body := .seq (.reg [
  o1 2 (.box 4 (.t 0)),
  oV 4 (.bool false)] false)
  (.seq (.seq (.reg [
  oV 5 (.int .i64 0)] false)
  (.block 0 (.loop c133_0)))
  (.seq (.seq (.reg [
  oV 6 (.int .i64 0)] false)
  (.block 2 (.loop c133_1)))
  (.seq (.reg [
  oV 4 (.bool false)] false)
  (.ret))))
theorem cfn133 : compFn Tryz.prog 133 = some fn133 := by kernel_rfl
def fn134 : AFn where
 ntmps := 60
 rs := 0
 results := [.tmp 4]
 body := .seq (.reg [
  o1 2 (.box 4 (.t 0)),
  o1 3 (.box 7 (.t 1)),
  oV 4 (.int .i64 0)] false)
  (.seq (.seq (.reg [
  oF 5 4 3,
  oL 6 5,
  oK 7 .lss 6 0,
  oM 8 7,
  gd 8 false (oF 9 4 3),
  gd 8 false (oL 10 9),
  gd 8 false (oK 11 .gtr 10 999999),
  o1 12 (.pick (.t 8) kT (.t 11)),
  oM 13 12,
  gd 13 false (oF 14 4 3),
  gd 13 false (oL 15 14),
  gd 13 false (oK 16 .gtr 15 0),
  gd 13 false (oM 17 16),
  gd 17 true (oA 18 4 2),
  gd 17 true (oF 19 4 3),
  gd 17 true (oL 20 19),
  gd 17 true (oC 21 173 [.t 18, .t 20]),
  gd 13 false (o1 22 (.pick (.t 17) (.t 21) kF)),
  o1 23 (.pick (.t 13) kT (.t 22))] false)
  (.cond (.t 23)
  (.seq (.reg [
  oV 4 (.int .i64 332)] false)
  (.ret))
  (.skip)))
  (.seq (.seq (.reg [
  oF 24 6 3,
  oL 25 24,
  o1 26 (.un .not (.t 25)),
  oM 27 26,
  gd 27 true (oF 28 1 2),
  gd 27 true (oL 29 28),
  gd 27 true (oN 30 29),
  gd 27 true (oK 31 .geq 30 12),
  o1 32 (.pick (.t 27) (.t 31) kF),
  oM 33 32,
  gd 33 false (oF 34 6 3),
  gd 33 false (oL 35 34),
  gd 33 false (oM 36 35),
  gd 36 true (oF 37 2 2),
  gd 36 true (oL 38 37),
  gd 36 true (oN 39 38),
  gd 36 true (oK 40 .geq 39 12),
  gd 33 false (o1 41 (.pick (.t 36) (.t 40) kF)),
  o1 42 (.pick (.t 33) kT (.t 41)),
  oM 43 42,
  gd 43 false (oF 44 4 3),
  gd 43 false (oL 45 44),
  gd 43 false (oK 46 .eql 45 0),
  gd 43 false (oM 47 46),
  gd 47 true (oF 48 3 2),
  gd 47 true (oL 49 48),
  gd 47 true (oK 50 .geq 49 1000000),
  gd 43 false (o1 51 (.pick (.t 47) (.t 50) kF)),
  o1 52 (.pick (.t 43) kT (.t 51))] false)
  (.cond (.t 52)
  (.seq (.reg [
  oV 4 (.int .i64 2)] false)
  (.ret))
  (.skip)))
  (.seq (.seq (.reg [
  oF 53 5 3,
  oL 54 53,
  oF 55 0 2,
  oL 56 55,
  oN 57 56,
  oC 58 174 [.t 54, .t 57],
  o1 59 (.un .not (.t 58))] false)
  (.cond (.t 59)
  (.seq (.reg [
  oV 4 (.int .i64 320)] false)
  (.ret))
  (.skip)))
  (.seq (.reg [
  oV 4 (.int .i64 0)] false)
  (.ret)))))
theorem cfn134 : compFn Tryz.prog 134 = some fn134 := by kernel_rfl
def fn135 : AFn where
 ntmps := 51
 rs := 0
 results := [.tmp 4]
 body := .seq (.reg [
  o1 2 (.box 4 (.t 0)),
  o1 3 (.box 7 (.t 1)),
  oV 4 (.int .i64 0)] false)
  (.seq (.seq (.reg [
  oA 6 4 2,
  oF 7 4 3,
  oL 8 7,
  oC 9 173 [.t 6, .t 8],
  o1 10 (.un .not (.t 9))] false)
  (.cond (.t 10)
  (.seq (.reg [
  oV 4 (.int .i64 332)] false)
  (.ret))
  (.skip)))
  (.seq (.seq (.reg [
  oF 11 0 3,
  oL 12 11,
  oK 13 .eql 12 7,
  oM 14 13,
  gd 14 true (oF 15 5 3),
  gd 14 true (oL 16 15),
  gd 14 true (oF 17 0 2),
  gd 14 true (oL 18 17),
  gd 14 true (oN 19 18),
  gd 14 true (oC 20 174 [.t 16, .t 19]),
  gd 14 true (o1 21 (.un .not (.t 20))),
  o1 22 (.pick (.t 14) (.t 21) kF)] false)
  (.cond (.t 22)
  (.seq (.reg [
  oV 4 (.int .i64 320)] false)
  (.ret))
  (.skip)))
  (.seq (.reg [
  oF 23 1 2,
  oL 24 23,
  oF 25 4 3,
  oL 26 25,
  oC 27 72 [.t 24, .t 26],
  oK 28 .geq 27 0,
  oM 5 28] false)
  (.seq (.seq (.reg [
  oF 29 0 3,
  oL 30 29,
  oK 31 .eql 30 8,
  oM 32 31,
  gd 32 true (oM 33 5),
  gd 32 true (oM 34 33),
  gd 34 true (oF 35 2 2),
  gd 34 true (oL 36 35),
  gd 34 true (oN 37 36),
  gd 34 true (oK 38 .geq 37 12),
  gd 32 true (o1 39 (.pick (.t 34) (.t 38) kF)),
  gd 32 true (oM 40 39),
  gd 40 false (oM 41 5),
  gd 40 false (o1 42 (.un .not (.t 41))),
  gd 40 false (oM 43 42),
  gd 43 true (oF 44 1 2),
  gd 43 true (oL 45 44),
  gd 43 true (oN 46 45),
  gd 43 true (oK 47 .geq 46 12),
  gd 40 false (o1 48 (.pick (.t 43) (.t 47) kF)),
  gd 32 true (o1 49 (.pick (.t 40) kT (.t 48))),
  o1 50 (.pick (.t 32) (.t 49) kF)] false)
  (.cond (.t 50)
  (.seq (.reg [
  oV 4 (.int .i64 2)] false)
  (.ret))
  (.skip)))
  (.seq (.reg [
  oV 4 (.int .i64 0)] false)
  (.ret))))))
theorem cfn135 : compFn Tryz.prog 135 = some fn135 := by kernel_rfl
def c136_0 : ACode := .seq (.seq (.reg [
  oM 21 9,
  oK 22 .lss 21 8] false)
  (.cond (.t 22)
  (.skip)
  (.exit 2)))
  (.seq (.block 3 (.reg [
  oM 25 9,
  o1 26 (.iadA 8 1 (.t 3) (.t 25)),
  oL 27 26,
  oM 28 0,
  oM 29 7,
  oM 30 9,
  oI 31 12 28 29,
  oF 32 4 31,
  o1 33 (.iadA 8 1 (.t 32) (.t 30)),
  oL 34 33,
  o1 35 (.iadA 8 1 (.t 8) (.t 27)),
  oS 1 35 34] true))
  (.reg [
  oM 23 9,
  oK 24 .add 23 1,
  oM 9 24] false))
def c136_1 : ACode := .seq (.seq (.reg [
  oM 14 7,
  oM 15 0,
  oN 16 15,
  oB 17 .lss 14 16] false)
  (.cond (.t 17)
  (.skip)
  (.exit 0)))
  (.seq (.block 1 (.seq (.reg [
  o1 20 (.build zMon []),
  o1 8 (.alloc zMon),
  oS 8 8 20] false)
  (.seq (.seq (.reg [
  oV 9 (.int .i64 0)] false)
  (.block 2 (.loop c136_0)))
  (.reg [
  oM 36 6,
  oM 37 0,
  oM 38 7,
  oI 39 12 37 38,
  oF 40 0 39,
  oA 41 4 40,
  oA 42 8 8,
  o1 43 (.build zTerm [(0, 4, (.t 41)), (4, 8, (.t 42))]),
  o1 44 (.bsl 12 1 zTerm [(0, 12, (.t 43))]),
  oC 45 102 [.t 36, .t 44],
  oM 6 45] true))))
  (.reg [
  oM 18 7,
  oK 19 .add 18 1,
  oM 7 19] false))
def fn136 : AFn where
 ntmps := 47
 rs := 12
 results := [.tmp 4, .tmp 5]
 body := .seq (.reg [
  o1 3 (.box 8 (.t 1)),
  oV 4 kE,
  oV 5 (.int .i64 0)] false)
  (.seq (.seq (.reg [
  oA 10 8 3,
  oC 11 175 [.t 10],
  o1 12 (.un .not (.t 11))] false)
  (.cond (.t 12)
  (.seq (.reg [
  oV 4 kE,
  oV 5 (.int .i64 1)] false)
  (.ret))
  (.skip)))
  (.seq (.reg [
  o1 13 (.bsl 12 0 zTerm []),
  oM 6 13] false)
  (.seq (.seq (.reg [
  oV 7 (.int .i64 0)] false)
  (.block 0 (.loop c136_1)))
  (.seq (.reg [
  oM 46 6,
  oM 4 46,
  oV 5 (.int .i64 0)] false)
  (.ret)))))
theorem cfn136 : compFn Tryz.prog 136 = some fn136 := by kernel_rfl
def c137_0 : ACode := .seq (.seq (.reg [
  oM 9 7,
  oM 10 0,
  oN 11 10,
  oB 12 .lss 9 11] false)
  (.cond (.t 12)
  (.skip)
  (.exit 0)))
  (.seq (.block 1 (.seq (.seq (.reg [
  oM 15 6,
  o1 16 (.un .not (.t 15)),
  oM 17 16,
  gd 17 true (oM 18 0),
  gd 17 true (oM 19 7),
  gd 17 true (oI 20 2 18 19),
  gd 17 true (oF 21 0 20),
  gd 17 true (oL 22 21),
  gd 17 true (oF 23 0 3),
  gd 17 true (oL 24 23),
  gd 17 true (oB 25 .geq 22 24),
  o1 26 (.pick (.t 17) (.t 25) kF)] true)
  (.cond (.t 26)
  (.seq (.reg [
  oM 27 5,
  oA 28 2 3,
  o1 29 (.bsl 2 1 zEq [(0, 2, (.t 28))]),
  o1 30 (.app 2 32 (.t 27) (.t 29)),
  oM 5 30] false)
  (.reg [
  oV 6 (.bool true)] false))
  (.skip)))
  (.seq (.reg [
  oM 31 0,
  oM 32 7,
  oI 33 2 31 32,
  oF 34 0 33,
  oL 35 34,
  oF 36 0 3,
  oL 37 36,
  oB 38 .neq 35 37] true)
  (.cond (.t 38)
  (.reg [
  oM 39 5,
  oM 40 0,
  oM 41 7,
  oI 42 2 40 41,
  oA 43 2 42,
  o1 44 (.bsl 2 1 zEq [(0, 2, (.t 43))]),
  o1 45 (.app 2 32 (.t 39) (.t 44)),
  oM 5 45] false)
  (.skip)))))
  (.reg [
  oM 13 7,
  oK 14 .add 13 1,
  oM 7 14] false))
def fn137 : AFn where
 ntmps := 53
 rs := 2
 results := [.tmp 4]
 body := .seq (.reg [
  o1 3 (.box 2 (.t 1)),
  oV 4 kE] false)
  (.seq (.reg [
  o1 8 (.bsl 2 0 zEq []),
  oM 5 8] false)
  (.seq (.reg [
  oV 6 (.bool false)] false)
  (.seq (.seq (.reg [
  oV 7 (.int .i64 0)] false)
  (.block 0 (.loop c137_0)))
  (.seq (.seq (.reg [
  oM 46 6,
  o1 47 (.un .not (.t 46))] false)
  (.cond (.t 47)
  (.reg [
  oM 48 5,
  oA 49 2 3,
  o1 50 (.bsl 2 1 zEq [(0, 2, (.t 49))]),
  o1 51 (.app 2 32 (.t 48) (.t 50)),
  oM 5 51] false)
  (.skip)))
  (.seq (.reg [
  oM 52 5,
  oM 4 52] false)
  (.ret))))))
theorem cfn137 : compFn Tryz.prog 137 = some fn137 := by kernel_rfl
def c138_0 : ACode := .seq (.seq (.reg [
  oM 8 6,
  oM 9 0,
  oN 10 9,
  oB 11 .lss 8 10] false)
  (.cond (.t 11)
  (.skip)
  (.exit 0)))
  (.seq (.block 1 (.seq (.reg [
  oM 14 0,
  oM 15 6,
  oI 16 2 14 15,
  oF 17 0 16,
  oL 18 17,
  oM 19 1,
  oB 20 .neq 18 19] false)
  (.cond (.t 20)
  (.reg [
  oM 21 5,
  oM 22 0,
  oM 23 6,
  oI 24 2 22 23,
  oA 25 2 24,
  o1 26 (.bsl 2 1 zEq [(0, 2, (.t 25))]),
  o1 27 (.app 2 32 (.t 21) (.t 26)),
  oM 5 27] false)
  (.skip))))
  (.reg [
  oM 12 6,
  oK 13 .add 12 1,
  oM 6 13] false))
def fn138 : AFn where
 ntmps := 29
 rs := 2
 results := [.tmp 4]
 body := .seq (.reg [
  oV 4 kE] false)
  (.seq (.reg [
  o1 7 (.bsl 2 0 zEq []),
  oM 5 7] false)
  (.seq (.seq (.reg [
  oV 6 (.int .i64 0)] false)
  (.block 0 (.loop c138_0)))
  (.seq (.reg [
  oM 28 5,
  oM 4 28] false)
  (.ret))))
theorem cfn138 : compFn Tryz.prog 138 = some fn138 := by kernel_rfl
def fn139 : AFn where
 ntmps := 8
 rs := 0
 results := [.tmp 4]
 body := .seq (.reg [
  oV 4 (.int .i64 0)] false)
  (.seq (.reg [
  oM 5 0,
  oM 6 1,
  oC 7 176 [.t 5, .t 6],
  oM 4 7] false)
  (.ret))
theorem cfn139 : compFn Tryz.prog 139 = some fn139 := by kernel_rfl
def fn140 : AFn where
 ntmps := 8
 rs := 0
 results := [.tmp 3]
 body := .seq (.reg [
  o1 2 (.box 2 (.t 0)),
  oV 3 (.bool false)] false)
  (.seq (.reg [
  oF 4 0 2,
  oL 5 4,
  oL 6 1,
  oB 7 .eql 5 6,
  oM 3 7] false)
  (.ret))
theorem cfn140 : compFn Tryz.prog 140 = some fn140 := by kernel_rfl
def fn141 : AFn where
 ntmps := 21
 rs := 0
 results := [.tmp 4]
 body := .seq (.reg [
  oV 4 (.bool false)] false)
  (.seq (.reg [
  oM 5 0,
  oC 6 177 [.t 5],
  oM 7 6,
  gd 7 true (oM 8 0),
  gd 7 true (oC 9 178 [.t 8]),
  gd 7 true (oK 10 .leq 9 12),
  o1 11 (.pick (.t 7) (.t 10) kF),
  oM 12 11,
  gd 12 true (oM 13 0),
  gd 12 true (oC 14 172 [.t 13]),
  gd 12 true (o1 15 (.conv .i64 (.t 14))),
  gd 12 true (oM 16 1),
  gd 12 true (o1 17 (.conv .u64 (.t 16))),
  gd 12 true (o1 18 (.bin .shl (kI 1) (.t 17))),
  gd 12 true (oB 19 .lss 15 18),
  o1 20 (.pick (.t 12) (.t 19) kF),
  oM 4 20] false)
  (.ret))
theorem cfn141 : compFn Tryz.prog 141 = some fn141 := by kernel_rfl
def fn142 : AFn where
 ntmps := 17
 rs := 0
 results := [.tmp 2]
 body := .seq (.reg [
  oV 2 (.bool false)] false)
  (.seq (.reg [
  oM 3 0,
  o1 4 (.bin .geq (.t 3) (.c (.int .u8 65))),
  oM 5 4,
  gd 5 true (oM 6 0),
  gd 5 true (o1 7 (.bin .leq (.t 6) (.c (.int .u8 90)))),
  o1 8 (.pick (.t 5) (.t 7) kF),
  oM 9 8,
  gd 9 false (oM 10 0),
  gd 9 false (o1 11 (.bin .geq (.t 10) (.c (.int .u8 97)))),
  gd 9 false (oM 12 11),
  gd 12 true (oM 13 0),
  gd 12 true (o1 14 (.bin .leq (.t 13) (.c (.int .u8 122)))),
  gd 9 false (o1 15 (.pick (.t 12) (.t 14) kF)),
  o1 16 (.pick (.t 9) kT (.t 15)),
  oM 2 16] false)
  (.ret))
theorem cfn142 : compFn Tryz.prog 142 = some fn142 := by kernel_rfl
def fn143 : AFn where
 ntmps := 16
 rs := 0
 results := [.cell 2 true 2]
 body := .seq (.reg [
  o1 2 (.alloc zInt)] false)
  (.seq (.seq (.reg [
  oM 3 0,
  oK 4 .lss 3 0] false)
  (.cond (.t 4)
  (.seq (.reg [
  oM 5 0,
  oK 6 .add 5 1,
  o1 7 (.un .neg (.t 6)),
  o1 8 (.conv .u64 (.t 7)),
  o1 9 (.bin .add (.t 8) (.c (.int .u64 1))),
  oC 10 180 [.t 9],
  oC 11 179 [kT, (.t 10)],
  oS 2 2 11] false)
  (.ret))
  (.skip)))
  (.seq (.reg [
  oM 12 0,
  o1 13 (.conv .u64 (.t 12)),
  oC 14 180 [.t 13],
  oC 15 179 [kF, (.t 14)],
  oS 2 2 15] false)
  (.ret)))
theorem cfn143 : compFn Tryz.prog 143 = some fn143 := by kernel_rfl
def c144_0 : ACode := .seq (.seq (.reg [
  oM 20 5,
  oF 21 1 2,
  oL 22 21,
  oN 23 22,
  oB 24 .lss 20 23] false)
  (.cond (.t 24)
  (.skip)
  (.exit 0)))
  (.seq (.block 1 (.seq (.reg [
  oF 27 1 2,
  oL 28 27,
  oM 29 5,
  oI 30 1 28 29,
  oL 31 30,
  oF 32 1 3,
  oL 33 32,
  oM 34 5,
  oI 35 1 33 34,
  oL 36 35,
  oB 37 .neq 31 36] true)
  (.cond (.t 37)
  (.seq (.reg [
  oV 4 (.bool false)] false)
  (.ret))
  (.skip))))
  (.reg [
  oM 25 5,
  oK 26 .add 25 1,
  oM 5 26] false))
def fn144 : AFn where
 ntmps := 38
 rs := 0
 results := [.tmp 4]
 body := .seq (.reg [
  o1 2 (.box 2 (.t 0)),
  o1 3 (.box 2 (.t 1)),
  oV 4 (.bool false)] false)
  (.seq (.seq (.reg [
  oF 6 0 2,
  oL 7 6,
  oF 8 0 3,
  oL 9 8,
  o1 10 (.eqb true (.t 7) (.t 9)),
  oM 11 10,
  gd 11 false (oF 12 1 2),
  gd 11 false (oL 13 12),
  gd 11 false (oN 14 13),
  gd 11 false (oF 15 1 3),
  gd 11 false (oL 16 15),
  gd 11 false (oN 17 16),
  gd 11 false (oB 18 .neq 14 17),
  o1 19 (.pick (.t 11) kT (.t 18))] false)
  (.cond (.t 19)
  (.seq (.reg [
  oV 4 (.bool false)] false)
  (.ret))
  (.skip)))
  (.seq (.seq (.reg [
  oV 5 (.int .i64 0)] false)
  (.block 0 (.loop c144_0)))
  (.seq (.reg [
  oV 4 (.bool true)] false)
  (.ret))))
theorem cfn144 : compFn Tryz.prog 144 = some fn144 := by kernel_rfl
def fn145 : AFn where
 ntmps := 16
 rs := 0
 results := [.cell 4 true 4]
 body := .seq (.reg [
  o1 2 (.box 4 (.t 0)),
  o1 3 (.box 4 (.t 1)),
  o1 4 (.alloc zRat)] false)
  (.seq (.reg [
  oF 5 0 2,
  oA 6 2 5,
  oF 7 0 3,
  oA 8 2 7,
  oC 9 182 [.t 6, .t 8],
  oF 10 2 2,
  ⟨(some 11), .ld true 2 (.t 10), none, [0]⟩,
  oF 12 2 3,
  ⟨(some 13), .ld true 2 (.t 12), none, [0]⟩,
  oC 14 182 [.t 11, .t 13],
  oC 15 181 [.t 9, .t 14],
  oS 4 4 15] true)
  (.ret))
theorem cfn145 : compFn Tryz.prog 145 = some fn145 := by kernel_rfl
def fn147 : AFn where
 ntmps := 22
 rs := 0
 results := [.cell 4 true 4]
 body := .seq (.reg [
  o1 2 (.box 4 (.t 0)),
  o1 3 (.box 4 (.t 1)),
  o1 4 (.alloc zRat)] false)
  (.seq (.reg [
  oF 5 0 2,
  oA 6 2 5,
  oF 7 2 3,
  oA 8 2 7,
  oC 9 182 [.t 6, .t 8],
  oF 10 0 3,
  ⟨(some 11), .ld true 2 (.t 10), none, [0]⟩,
  oF 12 2 2,
  ⟨(some 13), .ld true 2 (.t 12), none, [0]⟩,
  oC 14 182 [.t 11, .t 13],
  oC 15 183 [.t 9, .t 14],
  oF 16 2 2,
  ⟨(some 17), .ld true 2 (.t 16), none, [0, 5, 10]⟩,
  oF 18 2 3,
  ⟨(some 19), .ld true 2 (.t 18), none, [0, 5, 10]⟩,
  oC 20 182 [.t 17, .t 19],
  oC 21 181 [.t 15, .t 20],
  oS 4 4 21] true)
  (.ret))
theorem cfn147 : compFn Tryz.prog 147 = some fn147 := by kernel_rfl
def c148_0 : ACode := .seq (.reg [
  o1 11 (.nxt (.t 10)),
  oE 12 11 0] false)
  (.seq (.cond (.t 12)
  (.skip)
  (.exit 0))
  (.block 1 (.seq (.reg [
  oE 13 11 1,
  oE 14 11 2,
  oM 3 13,
  oM 4 14] false)
  (.seq (.reg [
  oM 15 4,
  o1 16 (.bin .geq (.t 15) (.c (.int .i32 65))),
  oM 17 16,
  gd 17 true (oM 18 4),
  gd 17 true (o1 19 (.bin .leq (.t 18) (.c (.int .i32 90)))),
  o1 20 (.pick (.t 17) (.t 19) kF),
  oM 21 20,
  gd 21 false (oM 22 4),
  gd 21 false (o1 23 (.bin .geq (.t 22) (.c (.int .i32 97)))),
  gd 21 false (oM 24 23),
  gd 24 true (oM 25 4),
  gd 24 true (o1 26 (.bin .leq (.t 25) (.c (.int .i32 122)))),
  gd 21 false (o1 27 (.pick (.t 24) (.t 26) kF)),
  o1 28 (.pick (.t 21) kT (.t 27)),
  oM 5 28] false)
  (.seq (.reg [
  oM 29 5,
  o1 30 (.un .not (.t 29)),
  oM 31 30,
  gd 31 true (oM 32 3),
  gd 31 true (oK 33 .eql 32 0),
  gd 31 true (oM 34 33),
  gd 34 false (oM 35 4),
  gd 34 false (o1 36 (.bin .neq (.t 35) (.c (.int .i32 95)))),
  gd 34 false (oM 37 36),
  gd 37 true (oM 38 4),
  gd 37 true (o1 39 (.bin .lss (.t 38) (.c (.int .i32 48)))),
  gd 37 true (oM 40 39),
  gd 40 false (oM 41 4),
  gd 40 false (o1 42 (.bin .gtr (.t 41) (.c (.int .i32 57)))),
  gd 37 true (o1 43 (.pick (.t 40) kT (.t 42))),
  gd 34 false (o1 44 (.pick (.t 37) (.t 43) kF)),
  gd 31 true (o1 45 (.pick (.t 34) kT (.t 44))),
  o1 46 (.pick (.t 31) (.t 45) kF)] false)
  (.cond (.t 46)
  (.seq (.reg [
  oV 2 (.bool false)] false)
  (.ret))
  (.skip)))))))
def fn148 : AFn where
 ntmps := 49
 rs := 0
 results := [.tmp 2]
 body := .seq (.reg [
  oV 2 (.bool false)] false)
  (.seq (.seq (.reg [
  oM 6 0,
  o1 7 (.lenT (.t 6)),
  oK 8 .gtr 7 12] false)
  (.cond (.t 8)
  (.seq (.reg [
  oV 2 (.bool false)] false)
  (.ret))
  (.skip)))
  (.seq (.seq (.reg [
  oM 9 0,
  o1 10 (.rng (.t 9))] false)
  (.block 0 (.loop c148_0)))
  (.seq (.reg [
  oM 47 0,
  o1 48 (.bin .neq (.t 47) (.c (.str ⟨#[]⟩))),
  oM 2 48] false)
  (.ret))))
theorem cfn148 : compFn Tryz.prog 148 = some fn148 := by kernel_rfl
def fn149 : AFn where
 ntmps := 19
 rs := 0
 results := [.tmp 4]
 body := .seq (.reg [
  oV 4 (.bool false)] false)
  (.seq (.reg [
  oM 5 0,
  oC 6 165 [.t 5],
  oM 7 6,
  gd 7 true (oM 8 0),
  gd 7 true (oC 9 166 [.t 8]),
  gd 7 true (oK 10 .leq 9 12),
  o1 11 (.pick (.t 7) (.t 10) kF),
  oM 12 11,
  gd 12 true (oM 13 0),
  gd 12 true (oC 14 163 [.t 13]),
  gd 12 true (oM 15 1),
  gd 12 true (oB 16 .shr 14 15),
  gd 12 true (o1 17 (.bin .eql (.t 16) (.c (.int .u8 0)))),
  o1 18 (.pick (.t 12) (.t 17) kF),
  oM 4 18] false)
  (.ret))
theorem cfn149 : compFn Tryz.prog 149 = some fn149 := by kernel_rfl
def fn150 : AFn where
 ntmps := 8
 rs := 0
 results := [.tmp 4]
 body := .seq (.reg [
  oV 4 (.int .i64 0)] false)
  (.seq (.reg [
  oM 5 0,
  oM 6 1,
  oC 7 184 [(.t 5), (.t 6), (.c (.func 185 [] []))],
  oM 4 7] false)
  (.ret))
theorem cfn150 : compFn Tryz.prog 150 = some fn150 := by kernel_rfl
def c152_0 : ACode := .seq (.seq (.reg [
  oM 6 5,
  oK 7 .lss 6 8] false)
  (.cond (.t 7)
  (.skip)
  (.exit 0)))
  (.seq (.block 1 (.seq (.seq (.reg [
  oM 10 5,
  o1 11 (.iadA 8 1 (.t 2) (.t 10)),
  oL 12 11,
  oM 13 5,
  o1 14 (.iadA 8 1 (.t 3) (.t 13)),
  oL 15 14,
  oB 16 .lss 12 15] true)
  (.cond (.t 16)
  (.seq (.reg [
  oV 4 (.int .i64 (-1))] false)
  (.ret))
  (.skip)))
  (.seq (.reg [
  oM 17 5,
  o1 18 (.iadA 8 1 (.t 2) (.t 17)),
  oL 19 18,
  oM 20 5,
  o1 21 (.iadA 8 1 (.t 3) (.t 20)),
  oL 22 21,
  oB 23 .gtr 19 22] true)
  (.cond (.t 23)
  (.seq (.reg [
  oV 4 (.int .i64 1)] false)
  (.ret))
  (.skip)))))
  (.reg [
  oM 8 5,
  oK 9 .add 8 1,
  oM 5 9] false))
def fn152 : AFn where
 ntmps := 24
 rs := 0
 results := [.tmp 4]
 body := .seq (.reg [
  o1 2 (.box 8 (.t 0)),
  o1 3 (.box 8 (.t 1)),
  oV 4 (.int .i64 0)] false)
  (.seq (.seq (.reg [
  oV 5 (.int .i64 0)] false)
  (.block 0 (.loop c152_0)))
  (.seq (.reg [
  oV 4 (.int .i64 0)] false)
  (.ret)))
theorem cfn152 : compFn Tryz.prog 152 = some fn152 := by kernel_rfl
def fn153 : AFn where
 ntmps := 6
 rs := 0
 results := [.tmp 2]
 body := .seq (.reg [
  o1 1 (.box 4 (.t 0)),
  oV 2 (.int .i64 0)] false)
  (.seq (.reg [
  oF 3 0 1,
  oA 4 2 3,
  oC 5 188 [.t 4],
  oM 2 5] false)
  (.ret))
theorem cfn153 : compFn Tryz.prog 153 = some fn153 := by kernel_rfl
def c154_0 : ACode := .seq (.seq (.reg [
  oM 16 9,
  oM 17 2,
  oN 18 17,
  oB 19 .lss 16 18] false)
  (.cond (.t 19)
  (.skip)
  (.exit 0)))
  (.seq (.block 1 (.seq (.reg [
  oA 23 8 4,
  oM 24 2,
  oM 25 9,
  oI 26 12 24 25,
  oF 27 4 26,
  oA 28 8 27,
  oC 29 189 [.t 23, .t 28],
  oM 22 29,
  oE 30 22 0,
  oE 31 22 1,
  o1 10 (.alloc zMon),
  oS 8 10 30,
  oM 11 31] true)
  (.seq (.seq (.reg [
  oM 32 11,
  oK 33 .neq 32 0] false)
  (.cond (.t 33)
  (.seq (.reg [
  oV 6 kE,
  oV 7 (.int .i64 2)] false)
  (.ret))
  (.skip)))
  (.reg [
  oM 34 8,
  oA 35 4 3,
  oM 36 2,
  oM 37 9,
  oI 38 12 36 37,
  oF 39 0 38,
  oA 40 4 39,
  oC 41 145 [.t 35, .t 40],
  ⟨(some 42), .ld true 8 (.t 10), none, [0]⟩,
  o1 43 (.build zTerm [(0, 4, (.t 41)), (4, 8, (.t 42))]),
  o1 44 (.bsl 12 1 zTerm [(0, 12, (.t 43))]),
  o1 45 (.app 12 128 (.t 34) (.t 44)),
  oM 8 45] true))))
  (.reg [
  oM 20 9,
  oK 21 .add 20 1,
  oM 9 21] false))
def fn154 : AFn where
 ntmps := 47
 rs := 12
 results := [.tmp 6, .tmp 7]
 body := .seq (.reg [
  o1 3 (.box 4 (.t 0)),
  o1 4 (.box 8 (.t 1)),
  oV 6 kE,
  oV 7 (.int .i64 0)] false)
  (.seq (.reg [
  o1 12 (.bsl 12 0 zTerm []),
  oM 8 12] false)
  (.seq (.seq (.reg [
  oA 13 4 3,
  oC 14 153 [.t 13],
  oK 15 .eql 14 0] false)
  (.cond (.t 15)
  (.seq (.reg [
  oV 6 kE,
  oV 7 (.int .i64 0)] false)
  (.ret))
  (.skip)))
  (.seq (.seq (.reg [
  oV 9 (.int .i64 0)] false)
  (.block 0 (.loop c154_0)))
  (.seq (.reg [
  oM 46 8,
  oM 6 46,
  oV 7 (.int .i64 0)] false)
  (.ret)))))
theorem cfn154 : compFn Tryz.prog 154 = some fn154 := by kernel_rfl
def c155_0 : ACode := .seq (.reg [
  oB 9 .lss 8 7] false)
  (.seq (.cond (.t 9)
  (.skip)
  (.exit 0))
  (.seq (.block 1 (.seq (.reg [
  oM 10 8,
  oM 5 10] false)
  (.seq (.reg [
  oM 11 1,
  oM 12 0,
  oM 13 5,
  oI 14 1 12 13,
  oL 15 14,
  oB 16 .eql 11 15] false)
  (.cond (.t 16)
  (.seq (.reg [
  oM 17 5,
  oM 4 17] false)
  (.ret))
  (.skip)))))
  (.reg [
  oK 18 .add 8 1,
  oM 8 18] false)))
def fn155 : AFn where
 ntmps := 19
 rs := 0
 results := [.tmp 4]
 body := .seq (.reg [
  oV 4 (.int .i64 0)] false)
  (.seq (.seq (.reg [
  oM 6 0,
  oN 7 6,
  oV 8 (.int .i64 0)] false)
  (.block 0 (.loop c155_0)))
  (.seq (.reg [
  oV 4 (.int .i64 (-1))] false)
  (.ret)))
theorem cfn155 : compFn Tryz.prog 155 = some fn155 := by kernel_rfl
def c156_0 : ACode := .seq (.reg [
  oB 12 .lss 11 10] false)
  (.seq (.cond (.t 12)
  (.skip)
  (.exit 0))
  (.seq (.block 1 (.seq (.reg [
  oM 13 11,
  oM 6 13] false)
  (.reg [
  oM 15 5,
  oM 16 6,
  oM 17 5,
  oM 18 6,
  oI 19 2 17 18,
  oF 20 1 19,
  oL 21 20,
  oA 22 8 3,
  oC 23 190 [.t 21, .t 22],
  oM 14 23,
  oE 24 14 0,
  oE 25 14 1,
  oI 26 2 15 16,
  oF 27 1 26,
  oS 1 27 24] true)))
  (.reg [
  oK 28 .add 11 1,
  oM 11 28] false)))
def fn156 : AFn where
 ntmps := 30
 rs := 2
 results := [.tmp 4]
 body := .seq (.reg [
  o1 3 (.box 8 (.t 1)),
  oV 4 kE] false)
  (.seq (.reg [
  oM 7 0,
  oC 8 170 [.t 7],
  oM 5 8] false)
  (.seq (.seq (.reg [
  oM 9 5,
  oN 10 9,
  oV 11 (.int .i64 0)] false)
  (.block 0 (.loop c156_0)))
  (.seq (.reg [
  oM 29 5,
  oM 4 29] false)
  (.ret))))
theorem cfn156 : compFn Tryz.prog 156 = some fn156 := by kernel_rfl
def fn158 : AFn where
 ntmps := 10
 rs := 0
 results := []
 body := .reg [
  oM 4 0,
  oM 5 0,
  oN 6 5,
  oM 7 1,
  oB 8 .sub 6 7,
  oC 9 191 [.t 4, .t 8]] false
theorem cfn158 : compFn Tryz.prog 158 = some fn158 := by kernel_rfl
def fn159 : AFn where
 ntmps := 95
 rs := 1
 results := [.tmp 6]
 body := .seq (.reg [
  oV 6 kE] false)
  (.seq (.reg [
  oM 10 0,
  oM 11 1,
  o1 12 (.slcS 1 (.t 10) (some (.t 11)) none none)] false)
  (.seq (.reg [
  oM 13 2,
  oN 14 13,
  oM 7 14] false)
  (.seq (.seq (.reg [
  oM 15 7,
  oK 16 .eql 15 0] false)
  (.cond (.t 16)
  (.seq (.reg [
  oM 17 0,
  oM 6 17] false)
  (.ret))
  (.skip)))
  (.seq (.reg [
  oM 18 0,
  oN 19 18,
  oM 8 19] false)
  (.seq (.seq (.reg [
  oM 20 1,
  oM 21 8,
  oB 22 .eql 20 21] false)
  (.cond (.t 22)
  (.seq (.reg [
  oM 23 0,
  oM 24 2,
  o1 25 (.app 1 8 (.t 23) (.t 24)),
  oM 6 25] false)
  (.ret))
  (.skip)))
  (.seq (.seq (.bad)
  (.cond (.t 31)
  (.seq (.bad)
  (.seq (.reg [
  oM 41 9,
  oM 42 1,
  o1 43 (.slcS 1 (.t 41) (some (.t 42)) none none),
  oM 44 2,
  o1 45 (.cpy 1 (.t 43) (.t 44))] false)
  (.seq (.reg [
  oM 46 9,
  oM 47 1,
  oM 48 7,
  oB 49 .add 47 48,
  o1 50 (.slcS 1 (.t 46) (some (.t 49)) none none),
  oM 51 0,
  oM 52 1,
  o1 53 (.slcS 1 (.t 51) (some (.t 52)) none none),
  o1 54 (.cpy 1 (.t 50) (.t 53))] true)
  (.seq (.reg [
  oM 55 9,
  oM 6 55] false)
  (.ret)))))
  (.skip)))
  (.seq (.reg [
  oM 56 0,
  oM 57 8,
  oM 58 7,
  oB 59 .add 57 58,
  o1 60 (.slcS 1 (.t 56) none (some (.t 59)) none),
  oM 0 60] false)
  (.seq (.seq (.reg [
  oM 61 2,
  oM 62 0,
  oM 63 1,
  oM 64 7,
  oB 65 .add 63 64,
  o1 66 (.slcS 1 (.t 62) (some (.t 65)) none none),
  oC 67 192 [.t 61, .t 66],
  o1 68 (.un .not (.t 67))] false)
  (.cond (.t 68)
  (.seq (.reg [
  oM 69 0,
  oM 70 1,
  oM 71 7,
  oB 72 .add 70 71,
  o1 73 (.slcS 1 (.t 69) (some (.t 72)) none none),
  oM 74 0,
  oM 75 1,
  o1 76 (.slcS 1 (.t 74) (some (.t 75)) none none),
  o1 77 (.cpy 1 (.t 73) (.t 76))] true)
  (.seq (.reg [
  oM 78 0,
  oM 79 1,
  o1 80 (.slcS 1 (.t 78) (some (.t 79)) none none),
  oM 81 2,
  o1 82 (.cpy 1 (.t 80) (.t 81))] false)
  (.seq (.reg [
  oM 83 0,
  oM 6 83] false)
  (.ret))))
  (.skip)))
  (.seq (.reg [
  oM 84 0,
  oM 85 8,
  o1 86 (.slcS 1 (.t 84) (some (.t 85)) none none),
  oM 87 2,
  o1 88 (.cpy 1 (.t 86) (.t 87))] false)
  (.seq (.reg [
  oM 89 0,
  oM 90 1,
  o1 91 (.slcS 1 (.t 89) (some (.t 90)) none none),
  oM 92 7,
  oC 93 193 [.t 91, .t 92]] false)
  (.seq (.reg [
  oM 94 0,
  oM 6 94] false)
  (.ret))))))))))))
theorem cfn159 : compFn Tryz.prog 159 = some fn159 := by kernel_rfl
def c160_0 : ACode := .seq (.seq (.reg [
  oM 16 6,
  oM 17 0,
  oN 18 17,
  oB 19 .lss 16 18] false)
  (.cond (.t 19)
  (.skip)
  (.exit 0)))
  (.seq (.block 1 (.seq (.reg [
  oM 22 0,
  oM 23 6,
  oI 24 1 22 23,
  oL 25 24,
  oM 7 25] false)
  (.seq (.reg [
  oM 26 1,
  oM 27 7,
  o1 28 (.call (.t 26) [.t 27]),
  o1 29 (.un .not (.t 28))] false)
  (.cond (.t 29)
  (.seq (.reg [
  oM 30 0,
  oM 31 5,
  oM 32 7,
  oI 33 1 30 31,
  oS 1 33 32] false)
  (.reg [
  oM 34 5,
  oK 35 .add 34 1,
  oM 5 35] false))
  (.skip)))))
  (.reg [
  oM 20 6,
  oK 21 .add 20 1,
  oM 6 21] false))
def fn160 : AFn where
 ntmps := 42
 rs := 1
 results := [.tmp 4]
 body := .seq (.reg [
  oV 4 kE] false)
  (.seq (.reg [
  oM 8 0,
  oM 9 1,
  oC 10 194 [.t 8, .t 9],
  oM 5 10] false)
  (.seq (.seq (.reg [
  oM 11 5,
  oK 12 .eql 11 (-1)] false)
  (.cond (.t 12)
  (.seq (.reg [
  oM 13 0,
  oM 4 13] false)
  (.ret))
  (.skip)))
  (.seq (.seq (.reg [
  oM 14 5,
  oK 15 .add 14 1,
  oM 6 15] false)
  (.block 0 (.loop c160_0)))
  (.seq (.reg [
  oM 36 0,
  oM 37 5,
  o1 38 (.slcS 1 (.t 36) (some (.t 37)) none none),
  o0 (.clr 1 [(.int .i64 0)] (.t 38))] false)
  (.seq (.reg [
  oM 39 0,
  oM 40 5,
  o1 41 (.slcS 1 (.t 39) none (some (.t 40)) none),
  oM 4 41] false)
  (.ret))))))
theorem cfn160 : compFn Tryz.prog 160 = some fn160 := by kernel_rfl
def fn161 : AFn where
 ntmps := 7
 rs := 0
 results := [.tmp 3]
 body := .seq (.reg [
  oV 3 (.bool false)] false)
  (.seq (.reg [
  oM 4 0,
  oL 5 1,
  oB 6 .eql 4 5,
  oM 3 6] false)
  (.ret))
theorem cfn161 : compFn Tryz.prog 161 = some fn161 := by kernel_rfl
def fn162 : AFn where
 ntmps := 13
 rs := 0
 results := [.tmp 3]
 body := .seq (.reg [
  o1 2 (.box 2 (.t 0)),
  oV 3 (.bool false)] false)
  (.seq (.reg [
  oF 4 1 2,
  oL 5 4,
  oC 6 163 [.t 5],
  oF 7 4 1,
  oF 8 2 7,
  ⟨(some 9), .ld false 1 (.t 8), none, [0]⟩,
  oB 10 .shr 6 9,
  o1 11 (.bin .and (.t 10) (.c (.int .u8 1))),
  o1 12 (.bin .eql (.t 11) (.c (.int .u8 1))),
  oM 3 12] true)
  (.ret))
theorem cfn162 : compFn Tryz.prog 162 = some fn162 := by kernel_rfl
def c163_0 : ACode := .seq (.reg [
  oB 9 .lss 8 7] false)
  (.seq (.cond (.t 9)
  (.skip)
  (.exit 0))
  (.seq (.block 1 (.seq (.reg [
  oI 10 12 6 8,
  oA 11 12 10,
  o1 5 (.alloc zTerm),
  oS 12 5 11] false)
  (.reg [
  oM 12 3,
  oF 13 4 5,
  oA 14 8 13,
  oC 15 195 [.t 14],
  oB 16 .or 12 15,
  oM 3 16] false)))
  (.reg [
  oK 17 .add 8 1,
  oM 8 17] false)))
def fn163 : AFn where
 ntmps := 19
 rs := 0
 results := [.tmp 2]
 body := .seq (.reg [
  oV 2 (.int .u8 0)] false)
  (.seq (.reg [
  oV 3 (.int .u8 0)] false)
  (.seq (.seq (.reg [
  oM 6 0,
  oN 7 6,
  oV 8 (.int .i64 0)] false)
  (.block 0 (.loop c163_0)))
  (.seq (.reg [
  oM 18 3,
  oM 2 18] false)
  (.ret))))
theorem cfn163 : compFn Tryz.prog 163 = some fn163 := by kernel_rfl
def fn164 : AFn where
 ntmps := 9
 rs := 0
 results := [.tmp 4]
 body := .seq (.reg [
  oV 4 (.bool false)] false)
  (.seq (.reg [
  oM 5 0,
  oM 6 1,
  oC 7 176 [.t 5, .t 6],
  oK 8 .geq 7 0,
  oM 4 8] false)
  (.ret))
theorem cfn164 : compFn Tryz.prog 164 = some fn164 := by kernel_rfl
def c165_0 : ACode := .seq (.reg [
  oB 8 .lss 7 6] false)
  (.seq (.cond (.t 8)
  (.skip)
  (.exit 0))
  (.seq (.block 1 (.seq (.reg [
  oM 9 7,
  oI 10 12 5 7,
  oA 11 12 10,
  o1 4 (.alloc zTerm),
  oM 3 9,
  oS 12 4 11] false)
  (.seq (.seq (.reg [
  oF 12 0 4,
  oA 13 4 12,
  oC 14 196 [.t 13],
  o1 15 (.un .not (.t 14)),
  oM 16 15,
  gd 16 false (oF 17 0 4),
  gd 16 false (oA 18 4 17),
  gd 16 false (oC 19 197 [.t 18]),
  gd 16 false (oK 20 .eql 19 0),
  o1 21 (.pick (.t 16) kT (.t 20)),
  oM 22 21,
  gd 22 false (oF 23 4 4),
  gd 22 false (oA 24 8 23),
  gd 22 false (oC 25 198 [.t 24]),
  gd 22 false (o1 26 (.un .not (.t 25))),
  o1 27 (.pick (.t 22) kT (.t 26))] false)
  (.cond (.t 27)
  (.seq (.reg [
  oV 2 (.bool false)] false)
  (.ret))
  (.skip)))
  (.seq (.reg [
  oM 28 3,
  oK 29 .gtr 28 0,
  oM 30 29,
  gd 30 true (oM 31 0),
  gd 30 true (oM 32 3),
  gd 30 true (oK 33 .sub 32 1),
  gd 30 true (oI 34 12 31 33),
  gd 30 true (oF 35 4 34),
  gd 30 true (oA 36 8 35),
  gd 30 true (oF 37 4 4),
  gd 30 true (oA 38 8 37),
  gd 30 true (oC 39 186 [.t 36, .t 38]),
  gd 30 true (oK 40 .leq 39 0),
  o1 41 (.pick (.t 30) (.t 40) kF)] true)
  (.cond (.t 41)
  (.seq (.reg [
  oV 2 (.bool false)] false)
  (.ret))
  (.skip))))))
  (.reg [
  oK 42 .add 7 1,
  oM 7 42] false)))
def fn165 : AFn where
 ntmps := 43
 rs := 0
 results := [.tmp 2]
 body := .seq (.reg [
  oV 2 (.bool false)] false)
  (.seq (.seq (.reg [
  oM 5 0,
  oN 6 5,
  oV 7 (.int .i64 0)] false)
  (.block 0 (.loop c165_0)))
  (.seq (.reg [
  oV 2 (.bool true)] false)
  (.ret)))
theorem cfn165 : compFn Tryz.prog 165 = some fn165 := by kernel_rfl
def c166_0 : ACode := .seq (.reg [
  oB 9 .lss 8 7] false)
  (.seq (.cond (.t 9)
  (.skip)
  (.exit 0))
  (.seq (.block 1 (.seq (.reg [
  oI 10 12 6 8,
  oA 11 12 10,
  o1 5 (.alloc zTerm),
  oS 12 5 11] false)
  (.reg [
  oM 12 3,
  oF 13 4 5,
  oA 14 8 13,
  oC 15 199 [.t 14],
  o1 16 (.maxi [.t 12, .t 15]),
  oM 3 16] false)))
  (.reg [
  oK 17 .add 8 1,
  oM 8 17] false)))
def fn166 : AFn where
 ntmps := 19
 rs := 0
 results := [.tmp 2]
 body := .seq (.reg [
  oV 2 (.int .i64 0)] false)
  (.seq (.reg [
  oV 3 (.int .i64 (-1))] false)
  (.seq (.seq (.reg [
  oM 6 0,
  oN 7 6,
  oV 8 (.int .i64 0)] false)
  (.block 0 (.loop c166_0)))
  (.seq (.reg [
  oM 18 3,
  oM 2 18] false)
  (.ret))))
theorem cfn166 : compFn Tryz.prog 166 = some fn166 := by kernel_rfl
def fn167 : AFn where
 ntmps := 9
 rs := 0
 results := [.tmp 3]
 body := .seq (.reg [
  o1 2 (.box 2 (.t 0)),
  oV 3 (.bool false)] false)
  (.seq (.reg [
  oF 4 0 2,
  oL 5 4,
  oF 6 0 1,
  oL 7 6,
  oB 8 .gtr 5 7,
  oM 3 8] false)
  (.ret))
theorem cfn167 : compFn Tryz.prog 167 = some fn167 := by kernel_rfl
def fn168 : AFn where
 ntmps := 95
 rs := 2
 results := [.tmp 6]
 body := .seq (.reg [
  oV 6 kE] false)
  (.seq (.reg [
  oM 10 0,
  oM 11 1,
  o1 12 (.slcS 2 (.t 10) (some (.t 11)) none none)] false)
  (.seq (.reg [
  oM 13 2,
  oN 14 13,
  oM 7 14] false)
  (.seq (.seq (.reg [
  oM 15 7,
  oK 16 .eql 15 0] false)
  (.cond (.t 16)
  (.seq (.reg [
  oM 17 0,
  oM 6 17] false)
  (.ret))
  (.skip)))
  (.seq (.reg [
  oM 18 0,
  oN 19 18,
  oM 8 19] false)
  (.seq (.seq (.reg [
  oM 20 1,
  oM 21 8,
  oB 22 .eql 20 21] false)
  (.cond (.t 22)
  (.seq (.reg [
  oM 23 0,
  oM 24 2,
  o1 25 (.app 2 32 (.t 23) (.t 24)),
  oM 6 25] false)
  (.ret))
  (.skip)))
  (.seq (.seq (.bad)
  (.cond (.t 31)
  (.seq (.bad)
  (.seq (.reg [
  oM 41 9,
  oM 42 1,
  o1 43 (.slcS 2 (.t 41) (some (.t 42)) none none),
  oM 44 2,
  o1 45 (.cpy 2 (.t 43) (.t 44))] false)
  (.seq (.reg [
  oM 46 9,
  oM 47 1,
  oM 48 7,
  oB 49 .add 47 48,
  o1 50 (.slcS 2 (.t 46) (some (.t 49)) none none),
  oM 51 0,
  oM 52 1,
  o1 53 (.slcS 2 (.t 51) (some (.t 52)) none none),
  o1 54 (.cpy 2 (.t 50) (.t 53))] true)
  (.seq (.reg [
  oM 55 9,
  oM 6 55] false)
  (.ret)))))
  (.skip)))
  (.seq (.reg [
  oM 56 0,
  oM 57 8,
  oM 58 7,
  oB 59 .add 57 58,
  o1 60 (.slcS 2 (.t 56) none (some (.t 59)) none),
  oM 0 60] false)
  (.seq (.seq (.reg [
  oM 61 2,
  oM 62 0,
  oM 63 1,
  oM 64 7,
  oB 65 .add 63 64,
  o1 66 (.slcS 2 (.t 62) (some (.t 65)) none none),
  oC 67 200 [.t 61, .t 66],
  o1 68 (.un .not (.t 67))] false)
  (.cond (.t 68)
  (.seq (.reg [
  oM 69 0,
  oM 70 1,
  oM 71 7,
  oB 72 .add 70 71,
  o1 73 (.slcS 2 (.t 69) (some (.t 72)) none none),
  oM 74 0,
  oM 75 1,
  o1 76 (.slcS 2 (.t 74) (some (.t 75)) none none),
  o1 77 (.cpy 2 (.t 73) (.t 76))] true)
  (.seq (.reg [
  oM 78 0,
  oM 79 1,
  o1 80 (.slcS 2 (.t 78) (some (.t 79)) none none),
  oM 81 2,
  o1 82 (.cpy 2 (.t 80) (.t 81))] false)
  (.seq (.reg [
  oM 83 0,
  oM 6 83] false)
  (.ret))))
  (.skip)))
  (.seq (.reg [
  oM 84 0,
  oM 85 8,
  o1 86 (.slcS 2 (.t 84) (some (.t 85)) none none),
  oM 87 2,
  o1 88 (.cpy 2 (.t 86) (.t 87))] false)
  (.seq (.reg [
  oM 89 0,
  oM 90 1,
  o1 91 (.slcS 2 (.t 89) (some (.t 90)) none none),
  oM 92 7,
  oC 93 201 [.t 91, .t 92]] false)
  (.seq (.reg [
  oM 94 0,
  oM 6 94] false)
  (.ret))))))))))))
theorem cfn168 : compFn Tryz.prog 168 = some fn168 := by kernel_rfl
def c169_0 : ACode := .seq (.seq (.reg [
  oM 16 6,
  oM 17 0,
  oN 18 17,
  oB 19 .lss 16 18] false)
  (.cond (.t 19)
  (.skip)
  (.exit 0)))
  (.seq (.block 1 (.seq (.reg [
  oM 22 0,
  oM 23 6,
  oI 24 2 22 23,
  oA 25 2 24,
  o1 7 (.alloc zEq),
  oS 2 7 25] false)
  (.seq (.reg [
  oM 26 1,
  oA 27 2 7,
  o1 28 (.call (.t 26) [.t 27]),
  o1 29 (.un .not (.t 28))] false)
  (.cond (.t 29)
  (.seq (.reg [
  oM 30 0,
  oM 31 5,
  oA 32 2 7,
  oI 33 2 30 31,
  oS 2 33 32] false)
  (.reg [
  oM 34 5,
  oK 35 .add 34 1,
  oM 5 35] false))
  (.skip)))))
  (.reg [
  oM 20 6,
  oK 21 .add 20 1,
  oM 6 21] false))
def fn169 : AFn where
 ntmps := 42
 rs := 2
 results := [.tmp 4]
 body := .seq (.reg [
  oV 4 kE] false)
  (.seq (.reg [
  oM 8 0,
  oM 9 1,
  oC 10 176 [.t 8, .t 9],
  oM 5 10] false)
  (.seq (.seq (.reg [
  oM 11 5,
  oK 12 .eql 11 (-1)] false)
  (.cond (.t 12)
  (.seq (.reg [
  oM 13 0,
  oM 4 13] false)
  (.ret))
  (.skip)))
  (.seq (.seq (.reg [
  oM 14 5,
  oK 15 .add 14 1,
  oM 6 15] false)
  (.block 0 (.loop c169_0)))
  (.seq (.reg [
  oM 36 0,
  oM 37 5,
  o1 38 (.slcS 2 (.t 36) (some (.t 37)) none none),
  o0 (.clr 2 zEq (.t 38))] false)
  (.seq (.reg [
  oM 39 0,
  oM 40 5,
  o1 41 (.slcS 2 (.t 39) none (some (.t 40)) none),
  oM 4 41] false)
  (.ret))))))
theorem cfn169 : compFn Tryz.prog 169 = some fn169 := by kernel_rfl
def fn170 : AFn where
 ntmps := 8
 rs := 2
 results := [.tmp 2]
 body := .seq (.reg [
  oV 2 kE] false)
  (.seq (.seq (.reg [
  oM 3 0,
  o1 4 (.isnil false (.t 3))] false)
  (.cond (.t 4)
  (.seq (.reg [
  oV 2 kE] false)
  (.ret))
  (.skip)))
  (.seq (.reg [
  o1 5 (.bsl 2 0 zEq []),
  oM 6 0,
  o1 7 (.app 2 32 (.t 5) (.t 6)),
  oM 2 7] false)
  (.ret)))
theorem cfn170 : compFn Tryz.prog 170 = some fn170 := by kernel_rfl
def fn171 : AFn where
 ntmps := 8
 rs := 0
 results := [.tmp 3]
 body := .seq (.reg [
  o1 2 (.box 2 (.t 0)),
  oV 3 (.bool false)] false)
  (.seq (.reg [
  oF 4 0 2,
  oL 5 4,
  oL 6 1,
  oB 7 .eql 5 6,
  oM 3 7] false)
  (.ret))
theorem cfn171 : compFn Tryz.prog 171 = some fn171 := by kernel_rfl
def c172_0 : ACode := .seq (.seq (.reg [
  oM 5 4,
  oM 6 0,
  oN 7 6,
  oB 8 .lss 5 7] false)
  (.cond (.t 8)
  (.skip)
  (.exit 0)))
  (.seq (.block 1 (.reg [
  oM 11 3,
  oM 12 0,
  oM 13 4,
  oI 14 12 12 13,
  oF 15 4 14,
  oA 16 8 15,
  oC 17 202 [.t 16],
  oB 18 .or 11 17,
  oM 3 18] false))
  (.reg [
  oM 9 4,
  oK 10 .add 9 1,
  oM 4 10] false))
def fn172 : AFn where
 ntmps := 20
 rs := 0
 results := [.tmp 2]
 body := .seq (.reg [
  oV 2 (.int .u8 0)] false)
  (.seq (.reg [
  oV 3 (.int .u8 0)] false)
  (.seq (.seq (.reg [
  oV 4 (.int .i64 0)] false)
  (.block 0 (.loop c172_0)))
  (.seq (.reg [
  oM 19 3,
  oM 2 19] false)
  (.ret))))
theorem cfn172 : compFn Tryz.prog 172 = some fn172 := by kernel_rfl
def fn173 : AFn where
 ntmps := 17
 rs := 0
 results := [.tmp 4]
 body := .seq (.reg [
  o1 2 (.box 4 (.t 0)),
  oV 4 (.bool false)] false)
  (.seq (.reg [
  oF 5 1 2,
  oL 6 5,
  oM 7 1,
  oC 8 72 [.t 6, .t 7],
  oK 9 .geq 8 0,
  oM 10 9,
  gd 10 false (oF 11 2 2),
  gd 10 false (oL 12 11),
  gd 10 false (oM 13 1),
  gd 10 false (oC 14 72 [.t 12, .t 13]),
  gd 10 false (oK 15 .geq 14 0),
  o1 16 (.pick (.t 10) kT (.t 15)),
  oM 4 16] false)
  (.ret))
theorem cfn173 : compFn Tryz.prog 173 = some fn173 := by kernel_rfl
def fn174 : AFn where
 ntmps := 20
 rs := 0
 results := [.tmp 4]
 body := .seq (.reg [
  oV 4 (.bool false)] false)
  (.seq (.reg [
  oM 5 0,
  oC 6 177 [.t 5],
  oM 7 6,
  gd 7 true (oM 8 0),
  gd 7 true (oC 9 172 [.t 8]),
  gd 7 true (o1 10 (.conv .i64 (.t 9))),
  gd 7 true (oM 11 1),
  gd 7 true (oB 12 .shr 10 11),
  gd 7 true (oK 13 .eql 12 0),
  o1 14 (.pick (.t 7) (.t 13) kF),
  oM 15 14,
  gd 15 true (oM 16 0),
  gd 15 true (oC 17 178 [.t 16]),
  gd 15 true (oK 18 .leq 17 12),
  o1 19 (.pick (.t 15) (.t 18) kF),
  oM 4 19] false)
  (.ret))
theorem cfn174 : compFn Tryz.prog 174 = some fn174 := by kernel_rfl
def c175_0 : ACode := .seq (.seq (.reg [
  oM 6 4,
  oK 7 .lss 6 8] false)
  (.cond (.t 7)
  (.skip)
  (.exit 0)))
  (.seq (.block 1 (.seq (.seq (.reg [
  oM 10 4,
  o1 11 (.iadA 8 1 (.t 1) (.t 10)),
  oL 12 11,
  oK 13 .lss 12 0,
  oM 14 13,
  gd 14 false (oM 15 4),
  gd 14 false (o1 16 (.iadA 8 1 (.t 1) (.t 15))),
  gd 14 false (oL 17 16),
  gd 14 false (oK 18 .geq 17 8),
  o1 19 (.pick (.t 14) kT (.t 18)),
  oM 20 19,
  gd 20 false (oM 21 4),
  gd 20 false (o1 22 (.iadA 8 1 (.t 1) (.t 21))),
  gd 20 false (oL 23 22),
  gd 20 false (o1 24 (.iadA 8 1 (.t 3) (.t 23))),
  gd 20 false (oL 25 24),
  o1 26 (.pick (.t 20) kT (.t 25))] false)
  (.cond (.t 26)
  (.seq (.reg [
  oV 2 (.bool false)] false)
  (.ret))
  (.skip)))
  (.reg [
  oM 27 4,
  o1 28 (.iadA 8 1 (.t 1) (.t 27)),
  oL 29 28,
  o1 30 (.iadA 8 1 (.t 3) (.t 29)),
  o0 (.st 1 (.t 30) kT)] false)))
  (.reg [
  oM 8 4,
  oK 9 .add 8 1,
  oM 4 9] false))
def fn175 : AFn where
 ntmps := 31
 rs := 0
 results := [.tmp 2]
 body := .seq (.reg [
  o1 1 (.box 8 (.t 0)),
  oV 2 (.bool false)] false)
  (.seq (.reg [
  o1 5 (.build [(.bool false), (.bool false), (.bool false), (.bool false), (.bool false), (.bool false), (.bool false), (.bool false)] []),
  o1 3 (.alloc [(.bool false), (.bool false), (.bool false), (.bool false), (.bool false), (.bool false), (.bool false), (.bool false)]),
  oS 8 3 5] false)
  (.seq (.seq (.reg [
  oV 4 (.int .i64 0)] false)
  (.block 0 (.loop c175_0)))
  (.seq (.reg [
  oV 2 (.bool true)] false)
  (.ret))))
theorem cfn175 : compFn Tryz.prog 175 = some fn175 := by kernel_rfl
def c176_0 : ACode := .seq (.reg [
  oB 9 .lss 8 7] false)
  (.seq (.cond (.t 9)
  (.skip)
  (.exit 0))
  (.seq (.block 1 (.seq (.reg [
  oM 10 8,
  oM 5 10] false)
  (.seq (.reg [
  oM 11 1,
  oM 12 0,
  oM 13 5,
  oI 14 2 12 13,
  oA 15 2 14,
  o1 16 (.call (.t 11) [.t 15])] false)
  (.cond (.t 16)
  (.seq (.reg [
  oM 17 5,
  oM 4 17] false)
  (.ret))
  (.skip)))))
  (.reg [
  oK 18 .add 8 1,
  oM 8 18] false)))
def fn176 : AFn where
 ntmps := 19
 rs := 0
 results := [.tmp 4]
 body := .seq (.reg [
  oV 4 (.int .i64 0)] false)
  (.seq (.seq (.reg [
  oM 6 0,
  oN 7 6,
  oV 8 (.int .i64 0)] false)
  (.block 0 (.loop c176_0)))
  (.seq (.reg [
  oV 4 (.int .i64 (-1))] false)
  (.ret)))
theorem cfn176 : compFn Tryz.prog 176 = some fn176 := by kernel_rfl
end Go.Va
end
section
open Go.Proofs
namespace Go.Va
def c177_0 : ACode := .seq (.seq (.reg [
  oM 4 3,
  oM 5 0,
  oN 6 5,
  oB 7 .lss 4 6] false)
  (.cond (.t 7)
  (.skip)
  (.exit 0)))
  (.seq (.block 1 (.seq (.seq (.reg [
  oM 10 0,
  oM 11 3,
  oI 12 12 10 11,
  oF 13 0 12,
  oA 14 4 13,
  oC 15 203 [.t 14],
  o1 16 (.un .not (.t 15)),
  oM 17 16,
  gd 17 false (oM 18 0),
  gd 17 false (oM 19 3),
  gd 17 false (oI 20 12 18 19),
  gd 17 false (oF 21 0 20),
  gd 17 false (oA 22 4 21),
  gd 17 false (oC 23 153 [.t 22]),
  gd 17 false (oK 24 .eql 23 0),
  o1 25 (.pick (.t 17) kT (.t 24)),
  oM 26 25,
  gd 26 false (oM 27 0),
  gd 26 false (oM 28 3),
  gd 26 false (oI 29 12 27 28),
  gd 26 false (oF 30 4 29),
  gd 26 false (oA 31 8 30),
  gd 26 false (oC 32 204 [.t 31]),
  gd 26 false (o1 33 (.un .not (.t 32))),
  o1 34 (.pick (.t 26) kT (.t 33))] false)
  (.cond (.t 34)
  (.seq (.reg [
  oV 2 (.bool false)] false)
  (.ret))
  (.skip)))
  (.seq (.reg [
  oM 35 3,
  oK 36 .gtr 35 0,
  oM 37 36,
  gd 37 true (oM 38 0),
  gd 37 true (oM 39 3),
  gd 37 true (oK 40 .sub 39 1),
  gd 37 true (oI 41 12 38 40),
  gd 37 true (oF 42 4 41),
  gd 37 true (oA 43 8 42),
  gd 37 true (oM 44 0),
  gd 37 true (oM 45 3),
  gd 37 true (oI 46 12 44 45),
  gd 37 true (oF 47 4 46),
  gd 37 true (oA 48 8 47),
  gd 37 true (oC 49 152 [.t 43, .t 48]),
  gd 37 true (oK 50 .leq 49 0),
  o1 51 (.pick (.t 37) (.t 50) kF)] true)
  (.cond (.t 51)
  (.seq (.reg [
  oV 2 (.bool false)] false)
  (.ret))
  (.skip)))))
  (.reg [
  oM 8 3,
  oK 9 .add 8 1,
  oM 3 9] false))
def fn177 : AFn where
 ntmps := 52
 rs := 0
 results := [.tmp 2]
 body := .seq (.reg [
  oV 2 (.bool false)] false)
  (.seq (.seq (.reg [
  oV 3 (.int .i64 0)] false)
  (.block 0 (.loop c177_0)))
  (.seq (.reg [
  oV 2 (.bool true)] false)
  (.ret)))
theorem cfn177 : compFn Tryz.prog 177 = some fn177 := by kernel_rfl
def c178_0 : ACode := .seq (.seq (.reg [
  oM 5 4,
  oM 6 0,
  oN 7 6,
  oB 8 .lss 5 7] false)
  (.cond (.t 8)
  (.skip)
  (.exit 0)))
  (.seq (.block 1 (.reg [
  oM 11 3,
  oM 12 0,
  oM 13 4,
  oI 14 12 12 13,
  oF 15 4 14,
  oA 16 8 15,
  oC 17 205 [.t 16],
  o1 18 (.maxi [.t 11, .t 17]),
  oM 3 18] false))
  (.reg [
  oM 9 4,
  oK 10 .add 9 1,
  oM 4 10] false))
def fn178 : AFn where
 ntmps := 20
 rs := 0
 results := [.tmp 2]
 body := .seq (.reg [
  oV 2 (.int .i64 0)] false)
  (.seq (.reg [
  oV 3 (.int .i64 (-1))] false)
  (.seq (.seq (.reg [
  oV 4 (.int .i64 0)] false)
  (.block 0 (.loop c178_0)))
  (.seq (.reg [
  oM 19 3,
  oM 2 19] false)
  (.ret))))
theorem cfn178 : compFn Tryz.prog 178 = some fn178 := by kernel_rfl
def fn179 : AFn where
 ntmps := 16
 rs := 0
 results := [.cell 4 true 2]
 body := .seq (.reg [
  o1 4 (.alloc zInt)] false)
  (.seq (.reg [
  oM 6 1,
  oC 7 206 [.t 6],
  oM 5 7] false)
  (.seq (.reg [
  oM 8 0,
  oM 9 8,
  gd 9 true (oM 10 5),
  gd 9 true (oN 11 10),
  gd 9 true (oK 12 .gtr 11 0),
  o1 13 (.pick (.t 9) (.t 12) kF),
  oM 14 5,
  o1 15 (.build zInt [(0, 1, (.t 13)), (1, 1, (.t 14))]),
  oS 2 4 15] false)
  (.ret)))
theorem cfn179 : compFn Tryz.prog 179 = some fn179 := by kernel_rfl
def fn180 : AFn where
 ntmps := 11
 rs := 1
 results := [.tmp 2]
 body := .seq (.reg [
  oV 2 kE] false)
  (.seq (.reg [
  oM 3 0,
  o1 4 (.bin .rem (.t 3) (.c (.int .u64 4294967296))),
  o1 5 (.conv .u32 (.t 4)),
  oM 6 0,
  o1 7 (.bin .quo (.t 6) (.c (.int .u64 4294967296))),
  o1 8 (.conv .u32 (.t 7)),
  o1 9 (.bsl 1 2 [(.int .u32 0)] [(0, 1, (.t 5)), (1, 1, (.t 8))]),
  oC 10 206 [.t 9],
  oM 2 10] false)
  (.ret))
theorem cfn180 : compFn Tryz.prog 180 = some fn180 := by kernel_rfl
def fn181 : AFn where
 ntmps := 21
 rs := 0
 results := [.cell 4 true 4]
 body := .seq (.reg [
  o1 2 (.box 2 (.t 0)),
  o1 3 (.box 2 (.t 1)),
  o1 4 (.alloc zRat)] false)
  (.seq (.reg [
  oA 6 2 2,
  oA 7 2 3,
  oC 8 207 [.t 6, .t 7],
  o1 5 (.alloc zInt),
  oS 2 5 8] false)
  (.seq (.seq (.reg [
  oA 9 2 3,
  oC 10 188 [.t 9],
  oK 11 .lss 10 0] false)
  (.cond (.t 11)
  (.reg [
  oA 12 2 5,
  oC 13 208 [.t 12],
  oS 2 5 13] false)
  (.skip)))
  (.seq (.reg [
  oA 14 2 2,
  oA 15 2 5,
  oC 16 209 [.t 14, .t 15],
  ⟨(some 17), .ld true 2 (.t 3), none, [0]⟩,
  ⟨(some 18), .ld true 2 (.t 5), none, [0]⟩,
  oC 19 209 [.t 17, .t 18],
  o1 20 (.build zRat [(0, 2, (.t 16)), (2, 2, (.t 19))]),
  oS 4 4 20] true)
  (.ret))))
theorem cfn181 : compFn Tryz.prog 181 = some fn181 := by kernel_rfl
def fn182 : AFn where
 ntmps := 16
 rs := 0
 results := [.cell 4 true 2]
 body := .seq (.reg [
  o1 2 (.box 2 (.t 0)),
  o1 3 (.box 2 (.t 1)),
  o1 4 (.alloc zInt)] false)
  (.seq (.reg [
  oF 5 0 2,
  ⟨(some 6), .ld false 1 (.t 5), none, [10]⟩,
  oF 7 0 3,
  ⟨(some 8), .ld false 1 (.t 7), none, [10]⟩,
  o1 9 (.eqb true (.t 6) (.t 8)),
  oF 10 1 2,
  oL 11 10,
  oF 12 1 3,
  oL 13 12,
  oC 14 210 [.t 11, .t 13],
  oC 15 179 [.t 9, .t 14],
  oS 2 4 15] true)
  (.ret))
theorem cfn182 : compFn Tryz.prog 182 = some fn182 := by kernel_rfl
def fn183 : AFn where
 ntmps := 40
 rs := 0
 results := [.cell 4 true 2]
 body := .seq (.reg [
  o1 2 (.box 2 (.t 0)),
  o1 3 (.box 2 (.t 1)),
  o1 4 (.alloc zInt)] false)
  (.seq (.seq (.reg [
  oF 5 0 2,
  oL 6 5,
  oF 7 0 3,
  oL 8 7,
  o1 9 (.eqb false (.t 6) (.t 8))] false)
  (.cond (.t 9)
  (.seq (.reg [
  oF 10 0 2,
  ⟨(some 11), .ld false 1 (.t 10), none, [7]⟩,
  oF 12 1 2,
  oL 13 12,
  oF 14 1 3,
  oL 15 14,
  oC 16 211 [.t 13, .t 15],
  oC 17 179 [.t 11, .t 16],
  oS 2 4 17] true)
  (.ret))
  (.skip)))
  (.seq (.seq (.reg [
  oF 18 1 2,
  oL 19 18,
  oF 20 1 3,
  oL 21 20,
  oC 22 212 [.t 19, .t 21],
  oK 23 .lss 22 0] false)
  (.cond (.t 23)
  (.seq (.reg [
  oF 24 0 3,
  ⟨(some 25), .ld false 1 (.t 24), none, [7]⟩,
  oF 26 1 3,
  oL 27 26,
  oF 28 1 2,
  oL 29 28,
  oC 30 213 [.t 27, .t 29],
  oC 31 179 [.t 25, .t 30],
  oS 2 4 31] true)
  (.ret))
  (.skip)))
  (.seq (.reg [
  oF 32 0 2,
  ⟨(some 33), .ld false 1 (.t 32), none, [7]⟩,
  oF 34 1 2,
  oL 35 34,
  oF 36 1 3,
  oL 37 36,
  oC 38 213 [.t 35, .t 37],
  oC 39 179 [.t 33, .t 38],
  oS 2 4 39] true)
  (.ret))))
theorem cfn183 : compFn Tryz.prog 183 = some fn183 := by kernel_rfl
def c184_0 : ACode := .seq (.reg [
  oB 14 .lss 13 12] false)
  (.seq (.cond (.t 14)
  (.skip)
  (.exit 0))
  (.seq (.block 1 (.seq (.reg [
  oM 15 13,
  oI 16 12 11 13,
  oA 17 12 16,
  o1 8 (.alloc zTerm),
  oM 7 15,
  oS 12 8 17] false)
  (.seq (.seq (.reg [
  oM 18 7,
  oM 19 1,
  oN 20 19,
  oB 21 .geq 18 20] false)
  (.cond (.t 21)
  (.seq (.reg [
  oV 6 (.int .i64 1)] false)
  (.ret))
  (.skip)))
  (.seq (.reg [
  oM 22 1,
  oM 23 7,
  oI 24 12 22 23,
  oA 25 12 24,
  o1 9 (.alloc zTerm),
  oS 12 9 25] false)
  (.seq (.reg [
  oM 26 2,
  oA 27 12 8,
  oA 28 12 9,
  o1 29 (.call (.t 26) [.t 27, .t 28]),
  oM 10 29] false)
  (.seq (.reg [
  oM 30 10,
  oK 31 .neq 30 0] false)
  (.cond (.t 31)
  (.seq (.reg [
  oM 32 10,
  oM 6 32] false)
  (.ret))
  (.skip))))))))
  (.reg [
  oK 33 .add 13 1,
  oM 13 33] false)))
def fn184 : AFn where
 ntmps := 39
 rs := 0
 results := [.tmp 6]
 body := .seq (.reg [
  oV 6 (.int .i64 0)] false)
  (.seq (.seq (.reg [
  oM 11 0,
  oN 12 11,
  oV 13 (.int .i64 0)] false)
  (.block 0 (.loop c184_0)))
  (.seq (.seq (.reg [
  oM 34 0,
  oN 35 34,
  oM 36 1,
  oN 37 36,
  oB 38 .lss 35 37] false)
  (.cond (.t 38)
  (.seq (.reg [
  oV 6 (.int .i64 (-1))] false)
  (.ret))
  (.skip)))
  (.seq (.reg [
  oV 6 (.int .i64 0)] false)
  (.ret))))
theorem cfn184 : compFn Tryz.prog 184 = some fn184 := by kernel_rfl
def fn185 : AFn where
 ntmps := 19
 rs := 0
 results := [.tmp 4]
 body := .seq (.reg [
  o1 2 (.box 12 (.t 0)),
  o1 3 (.box 12 (.t 1)),
  oV 4 (.int .i64 0)] false)
  (.seq (.seq (.reg [
  oF 6 4 2,
  oA 7 8 6,
  oF 8 4 3,
  oA 9 8 8,
  oC 10 186 [.t 7, .t 9],
  oM 5 10] false)
  (.seq (.reg [
  oM 11 5,
  oK 12 .neq 11 0] false)
  (.cond (.t 12)
  (.seq (.reg [
  oM 13 5,
  oM 4 13] false)
  (.ret))
  (.skip))))
  (.seq (.reg [
  oF 14 0 2,
  oA 15 4 14,
  oF 16 0 3,
  oA 17 4 16,
  oC 18 187 [.t 15, .t 17],
  oM 4 18] false)
  (.ret)))
theorem cfn185 : compFn Tryz.prog 185 = some fn185 := by kernel_rfl
def fn186 : AFn where
 ntmps := 8
 rs := 0
 results := [.tmp 4]
 body := .seq (.reg [
  o1 2 (.box 8 (.t 0)),
  o1 3 (.box 8 (.t 1)),
  oV 4 (.int .i64 0)] false)
  (.seq (.reg [
  o1 5 (.slcA 8 1 (.t 2) none none),
  o1 6 (.slcA 8 1 (.t 3) none none),
  oC 7 214 [.t 5, .t 6],
  oM 4 7] true)
  (.ret))
theorem cfn186 : compFn Tryz.prog 186 = some fn186 := by kernel_rfl
def fn187 : AFn where
 ntmps := 18
 rs := 0
 results := [.tmp 4]
 body := .seq (.reg [
  o1 2 (.box 4 (.t 0)),
  o1 3 (.box 4 (.t 1)),
  oV 4 (.int .i64 0)] false)
  (.seq (.reg [
  oF 5 0 2,
  oA 6 2 5,
  oF 7 2 3,
  oA 8 2 7,
  o1 9 (.bsl 2 2 zInt [(0, 2, (.t 6)), (2, 2, (.t 8))]),
  oC 10 216 [.t 9],
  oF 11 0 3,
  ⟨(some 12), .ld true 2 (.t 11), none, [0]⟩,
  oF 13 2 2,
  ⟨(some 14), .ld true 2 (.t 13), none, [0]⟩,
  o1 15 (.bsl 2 2 zInt [(0, 2, (.t 12)), (2, 2, (.t 14))]),
  oC 16 216 [.t 15],
  oC 17 215 [.t 10, .t 16],
  oM 4 17] true)
  (.ret))
theorem cfn187 : compFn Tryz.prog 187 = some fn187 := by kernel_rfl
def fn188 : AFn where
 ntmps := 9
 rs := 0
 results := [.tmp 2]
 body := .seq (.reg [
  o1 1 (.box 2 (.t 0)),
  oV 2 (.int .i64 0)] false)
  (.seq (.seq (.reg [
  oF 3 0 1,
  oL 4 3] false)
  (.cond (.t 4)
  (.seq (.reg [
  oV 2 (.int .i64 (-1))] false)
  (.ret))
  (.skip)))
  (.seq (.reg [
  oF 5 1 1,
  oL 6 5,
  oN 7 6,
  o1 8 (.mini [(.t 7), (kI 1)]),
  oM 2 8] false)
  (.ret)))
theorem cfn188 : compFn Tryz.prog 188 = some fn188 := by kernel_rfl
def c189_0 : ACode := .seq (.seq (.reg [
  oM 7 6,
  oK 8 .lss 7 8] false)
  (.cond (.t 8)
  (.skip)
  (.exit 0)))
  (.seq (.block 1 (.reg [
  oM 11 6,
  o1 12 (.iadA 8 1 (.t 2) (.t 11)),
  oL 13 12,
  oM 14 6,
  o1 15 (.iadA 8 1 (.t 3) (.t 14)),
  oL 16 15,
  oB 17 .add 13 16,
  o1 18 (.iadA 8 1 (.t 2) (.t 11)),
  oS 1 18 17] true))
  (.reg [
  oM 9 6,
  oK 10 .add 9 1,
  oM 6 10] false))
def fn189 : AFn where
 ntmps := 24
 rs := 0
 results := [.cell 4 true 8, .tmp 5]
 body := .seq (.reg [
  o1 2 (.box 8 (.t 0)),
  o1 3 (.box 8 (.t 1)),
  o1 4 (.alloc zMon),
  oV 5 (.int .i64 0)] false)
  (.seq (.seq (.reg [
  oV 6 (.int .i64 0)] false)
  (.block 0 (.loop c189_0)))
  (.seq (.seq (.reg [
  oA 19 8 2,
  oC 20 204 [.t 19],
  o1 21 (.un .not (.t 20))] false)
  (.cond (.t 21)
  (.seq (.reg [
  o1 22 (.build zMon []),
  oS 8 4 22,
  oV 5 (.int .i64 2)] false)
  (.ret))
  (.skip)))
  (.seq (.reg [
  oA 23 8 2,
  oS 8 4 23,
  oV 5 (.int .i64 0)] false)
  (.ret))))
theorem cfn189 : compFn Tryz.prog 189 = some fn189 := by kernel_rfl
def c190_0 : ACode := .seq (.reg [
  oK 17 .lss 16 8] false)
  (.seq (.cond (.t 17)
  (.skip)
  (.exit 0))
  (.seq (.block 1 (.seq (.reg [
  o1 18 (.idxA 8 1 false (.t 15) (.t 16)),
  oM 8 18] false)
  (.seq (.seq (.reg [
  oM 19 8,
  oK 20 .lss 19 0,
  oM 21 20,
  gd 21 false (oM 22 8),
  gd 21 false (oK 23 .geq 22 8),
  o1 24 (.pick (.t 21) kT (.t 23)),
  oM 25 24,
  gd 25 false (oM 26 8),
  gd 25 false (o1 27 (.iadA 8 1 (.t 6) (.t 26))),
  gd 25 false (oL 28 27),
  o1 29 (.pick (.t 25) kT (.t 28))] false)
  (.cond (.t 29)
  (.seq (.reg [
  oV 4 kE,
  oV 5 (.int .i64 1)] false)
  (.ret))
  (.skip)))
  (.reg [
  oM 30 8,
  o1 31 (.iadA 8 1 (.t 6) (.t 30)),
  o0 (.st 1 (.t 31) kT)] false))))
  (.reg [
  oK 32 .add 16 1,
  oM 16 32] false)))
def c190_1 : ACode := .seq (.reg [
  oK 43 .lss 42 8] false)
  (.seq (.cond (.t 43)
  (.skip)
  (.exit 4))
  (.seq (.block 5 (.seq (.reg [
  oM 44 42,
  o1 45 (.idxA 8 1 false (.t 41) (.t 42)),
  oM 13 44,
  oM 14 45] false)
  (.reg [
  oM 46 13,
  o1 47 (.iadA 8 1 (.t 3) (.t 46)),
  oL 48 47,
  oM 49 14,
  o1 50 (.iadA 8 1 (.t 12) (.t 48)),
  oS 1 50 49] false)))
  (.reg [
  oK 51 .add 42 1,
  oM 42 51] false)))
def c190_2 : ACode := .seq (.reg [
  oB 37 .lss 36 35] false)
  (.seq (.cond (.t 37)
  (.skip)
  (.exit 2))
  (.seq (.block 3 (.seq (.reg [
  oI 38 12 34 36,
  oA 39 12 38,
  o1 11 (.alloc zTerm),
  oS 12 11 39] false)
  (.seq (.reg [
  o1 12 (.alloc zMon)] false)
  (.seq (.seq (.reg [
  oF 40 4 11,
  oA 41 8 40,
  oV 42 (.int .i64 0)] false)
  (.block 4 (.loop c190_1)))
  (.reg [
  oM 52 9,
  oF 53 0 11,
  oA 54 4 53,
  oA 55 8 12,
  oC 56 217 [.t 52, .t 54, .t 55]] false)))))
  (.reg [
  oK 57 .add 36 1,
  oM 36 57] false)))
def fn190 : AFn where
 ntmps := 60
 rs := 12
 results := [.tmp 4, .tmp 5]
 body := .seq (.reg [
  o1 3 (.box 8 (.t 1)),
  oV 4 kE,
  oV 5 (.int .i64 0)] false)
  (.seq (.reg [
  o1 6 (.alloc [(.bool false), (.bool false), (.bool false), (.bool false), (.bool false), (.bool false), (.bool false), (.bool false)])] false)
  (.seq (.seq (.reg [
  oA 15 8 3,
  oV 16 (.int .i64 0)] false)
  (.block 0 (.loop c190_0)))
  (.seq (.reg [
  o1 33 (.mkm),
  oM 9 33] false)
  (.seq (.seq (.reg [
  oM 34 0,
  oN 35 34,
  oV 36 (.int .i64 0)] false)
  (.block 2 (.loop c190_2)))
  (.seq (.reg [
  oM 58 9,
  oC 59 218 [.t 58],
  oM 4 59,
  oV 5 (.int .i64 0)] false)
  (.ret))))))
theorem cfn190 : compFn Tryz.prog 190 = some fn190 := by kernel_rfl
def fn191 : AFn where
 ntmps := 14
 rs := 0
 results := []
 body := .seq (.reg [
  oM 4 0,
  oM 5 1,
  o1 6 (.slcS 1 (.t 4) none (some (.t 5)) none),
  oC 7 219 [.t 6]] false)
  (.seq (.reg [
  oM 8 0,
  oM 9 1,
  o1 10 (.slcS 1 (.t 8) (some (.t 9)) none none),
  oC 11 219 [.t 10]] false)
  (.reg [
  oM 12 0,
  oC 13 219 [.t 12]] false))
theorem cfn191 : compFn Tryz.prog 191 = some fn191 := by kernel_rfl
def fn193 : AFn where
 ntmps := 10
 rs := 0
 results := []
 body := .reg [
  oM 4 0,
  oM 5 0,
  oN 6 5,
  oM 7 1,
  oB 8 .sub 6 7,
  oC 9 220 [.t 4, .t 8]] false
theorem cfn193 : compFn Tryz.prog 193 = some fn193 := by kernel_rfl
def c194_0 : ACode := .seq (.reg [
  oB 9 .lss 8 7] false)
  (.seq (.cond (.t 9)
  (.skip)
  (.exit 0))
  (.seq (.block 1 (.seq (.reg [
  oM 10 8,
  oM 5 10] false)
  (.seq (.reg [
  oM 11 1,
  oM 12 0,
  oM 13 5,
  oI 14 1 12 13,
  oL 15 14,
  o1 16 (.call (.t 11) [.t 15])] false)
  (.cond (.t 16)
  (.seq (.reg [
  oM 17 5,
  oM 4 17] false)
  (.ret))
  (.skip)))))
  (.reg [
  oK 18 .add 8 1,
  oM 8 18] false)))
def fn194 : AFn where
 ntmps := 19
 rs := 0
 results := [.tmp 4]
 body := .seq (.reg [
  oV 4 (.int .i64 0)] false)
  (.seq (.seq (.reg [
  oM 6 0,
  oN 7 6,
  oV 8 (.int .i64 0)] false)
  (.block 0 (.loop c194_0)))
  (.seq (.reg [
  oV 4 (.int .i64 (-1))] false)
  (.ret)))
theorem cfn194 : compFn Tryz.prog 194 = some fn194 := by kernel_rfl
def c195_0 : ACode := .seq (.reg [
  oK 8 .lss 7 8] false)
  (.seq (.cond (.t 8)
  (.skip)
  (.exit 0))
  (.seq (.block 1 (.seq (.reg [
  oM 9 7,
  o1 10 (.idxA 8 1 false (.t 6) (.t 7)),
  oM 4 9,
  oM 5 10] false)
  (.seq (.reg [
  oM 11 5,
  oK 12 .gtr 11 0] false)
  (.cond (.t 12)
  (.reg [
  oM 13 3,
  oM 14 4,
  o1 15 (.bin .shl (.c (.int .u8 1)) (.t 14)),
  oB 16 .or 13 15,
  oM 3 16] false)
  (.skip)))))
  (.reg [
  oK 17 .add 7 1,
  oM 7 17] false)))
def fn195 : AFn where
 ntmps := 19
 rs := 0
 results := [.tmp 2]
 body := .seq (.reg [
  o1 1 (.box 8 (.t 0)),
  oV 2 (.int .u8 0)] false)
  (.seq (.reg [
  oV 3 (.int .u8 0)] false)
  (.seq (.seq (.reg [
  oA 6 8 1,
  oV 7 (.int .i64 0)] false)
  (.block 0 (.loop c195_0)))
  (.seq (.reg [
  oM 18 3,
  oM 2 18] false)
  (.ret))))
theorem cfn195 : compFn Tryz.prog 195 = some fn195 := by kernel_rfl
def fn196 : AFn where
 ntmps := 27
 rs := 0
 results := [.tmp 2]
 body := .seq (.reg [
  o1 1 (.box 4 (.t 0)),
  oV 2 (.bool false)] false)
  (.seq (.seq (.reg [
  oF 3 0 1,
  oA 4 2 3,
  oC 5 221 [.t 4],
  o1 6 (.un .not (.t 5)),
  oM 7 6,
  gd 7 false (oF 8 2 1),
  gd 7 false (oA 9 2 8),
  gd 7 false (oC 10 221 [.t 9]),
  gd 7 false (o1 11 (.un .not (.t 10))),
  o1 12 (.pick (.t 7) kT (.t 11)),
  oM 13 12,
  gd 13 false (oF 14 2 1),
  gd 13 false (oA 15 2 14),
  gd 13 false (oC 16 222 [.t 15]),
  gd 13 false (oK 17 .leq 16 0),
  o1 18 (.pick (.t 13) kT (.t 17))] false)
  (.cond (.t 18)
  (.seq (.reg [
  oV 2 (.bool false)] false)
  (.ret))
  (.skip)))
  (.seq (.reg [
  oF 19 0 1,
  oA 20 2 19,
  oF 21 2 1,
  oA 22 2 21,
  oC 23 223 [.t 20, .t 22],
  oC 24 224 [(kI 1)],
  oC 25 215 [.t 23, .t 24],
  oK 26 .eql 25 0,
  oM 2 26] false)
  (.ret)))
theorem cfn196 : compFn Tryz.prog 196 = some fn196 := by kernel_rfl
def fn197 : AFn where
 ntmps := 6
 rs := 0
 results := [.tmp 2]
 body := .seq (.reg [
  o1 1 (.box 4 (.t 0)),
  oV 2 (.int .i64 0)] false)
  (.seq (.reg [
  oF 3 0 1,
  oA 4 2 3,
  oC 5 222 [.t 4],
  oM 2 5] false)
  (.ret))
theorem cfn197 : compFn Tryz.prog 197 = some fn197 := by kernel_rfl
def c198_0 : ACode := .seq (.reg [
  oK 7 .lss 6 8] false)
  (.seq (.cond (.t 7)
  (.skip)
  (.exit 0))
  (.seq (.block 1 (.seq (.reg [
  o1 8 (.idxA 8 1 false (.t 5) (.t 6)),
  oM 4 8] false)
  (.seq (.reg [
  oM 9 4,
  oK 10 .lss 9 0,
  oM 11 10,
  gd 11 false (oM 12 4),
  gd 11 false (oK 13 .gtr 12 65535),
  o1 14 (.pick (.t 11) kT (.t 13))] false)
  (.cond (.t 14)
  (.seq (.reg [
  oV 2 (.bool false)] false)
  (.ret))
  (.skip)))))
  (.reg [
  oK 15 .add 6 1,
  oM 6 15] false)))
def fn198 : AFn where
 ntmps := 16
 rs := 0
 results := [.tmp 2]
 body := .seq (.reg [
  o1 1 (.box 8 (.t 0)),
  oV 2 (.bool false)] false)
  (.seq (.seq (.reg [
  oA 5 8 1,
  oV 6 (.int .i64 0)] false)
  (.block 0 (.loop c198_0)))
  (.seq (.reg [
  oV 2 (.bool true)] false)
  (.ret)))
theorem cfn198 : compFn Tryz.prog 198 = some fn198 := by kernel_rfl
def c199_0 : ACode := .seq (.reg [
  oK 8 .lss 7 8] false)
  (.seq (.cond (.t 8)
  (.skip)
  (.exit 0))
  (.seq (.block 1 (.seq (.reg [
  o1 9 (.idxA 8 1 false (.t 6) (.t 7)),
  oM 5 9] false)
  (.reg [
  oM 10 3,
  oM 11 5,
  oB 12 .add 10 11,
  oM 3 12] false)))
  (.reg [
  oK 13 .add 7 1,
  oM 7 13] false)))
def fn199 : AFn where
 ntmps := 15
 rs := 0
 results := [.tmp 2]
 body := .seq (.reg [
  o1 1 (.box 8 (.t 0)),
  oV 2 (.int .i64 0)] false)
  (.seq (.reg [
  oV 3 (.int .i64 0)] false)
  (.seq (.seq (.reg [
  oA 6 8 1,
  oV 7 (.int .i64 0)] false)
  (.block 0 (.loop c199_0)))
  (.seq (.reg [
  oM 14 3,
  oM 2 14] false)
  (.ret))))
theorem cfn199 : compFn Tryz.prog 199 = some fn199 := by kernel_rfl
def fn201 : AFn where
 ntmps := 10
 rs := 0
 results := []
 body := .reg [
  oM 4 0,
  oM 5 0,
  oN 6 5,
  oM 7 1,
  oB 8 .sub 6 7,
  oC 9 225 [.t 4, .t 8]] false
theorem cfn201 : compFn Tryz.prog 201 = some fn201 := by kernel_rfl
def c202_0 : ACode := .seq (.seq (.reg [
  oM 5 4,
  oK 6 .lss 5 8] false)
  (.cond (.t 6)
  (.skip)
  (.exit 0)))
  (.seq (.block 1 (.seq (.reg [
  oM 9 4,
  o1 10 (.iadA 8 1 (.t 1) (.t 9)),
  oL 11 10,
  oK 12 .gtr 11 0] false)
  (.cond (.t 12)
  (.reg [
  oM 13 3,
  oM 14 4,
  oC 15 226 [.t 14],
  oB 16 .add 13 15,
  oM 3 16] false)
  (.skip))))
  (.reg [
  oM 7 4,
  oK 8 .add 7 1,
  oM 4 8] false))
def fn202 : AFn where
 ntmps := 18
 rs := 0
 results := [.tmp 2]
 body := .seq (.reg [
  o1 1 (.box 8 (.t 0)),
  oV 2 (.int .u8 0)] false)
  (.seq (.reg [
  oV 3 (.int .u8 0)] false)
  (.seq (.seq (.reg [
  oV 4 (.int .i64 0)] false)
  (.block 0 (.loop c202_0)))
  (.seq (.reg [
  oM 17 3,
  oM 2 17] false)
  (.ret))))
theorem cfn202 : compFn Tryz.prog 202 = some fn202 := by kernel_rfl
def fn203 : AFn where
 ntmps := 27
 rs := 0
 results := [.tmp 2]
 body := .seq (.reg [
  o1 1 (.box 4 (.t 0)),
  oV 2 (.bool false)] false)
  (.seq (.seq (.reg [
  oF 3 0 1,
  oA 4 2 3,
  oC 5 227 [.t 4],
  o1 6 (.un .not (.t 5)),
  oM 7 6,
  gd 7 false (oF 8 2 1),
  gd 7 false (oA 9 2 8),
  gd 7 false (oC 10 227 [.t 9]),
  gd 7 false (o1 11 (.un .not (.t 10))),
  o1 12 (.pick (.t 7) kT (.t 11)),
  oM 13 12,
  gd 13 false (oF 14 2 1),
  gd 13 false (oA 15 2 14),
  gd 13 false (oC 16 188 [.t 15]),
  gd 13 false (oK 17 .lss 16 1),
  o1 18 (.pick (.t 13) kT (.t 17))] false)
  (.cond (.t 18)
  (.seq (.reg [
  oV 2 (.bool false)] false)
  (.ret))
  (.skip)))
  (.seq (.reg [
  oF 19 0 1,
  oA 20 2 19,
  oF 21 2 1,
  oA 22 2 21,
  oC 23 207 [.t 20, .t 22],
  oC 24 143 [(kI 1)],
  oC 25 228 [.t 23, .t 24],
  oK 26 .eql 25 0,
  oM 2 26] false)
  (.ret)))
theorem cfn203 : compFn Tryz.prog 203 = some fn203 := by kernel_rfl
def c204_0 : ACode := .seq (.seq (.reg [
  oM 4 3,
  oK 5 .lss 4 8] false)
  (.cond (.t 5)
  (.skip)
  (.exit 0)))
  (.seq (.block 1 (.seq (.reg [
  oM 8 3,
  o1 9 (.iadA 8 1 (.t 1) (.t 8)),
  oL 10 9,
  oK 11 .lss 10 0,
  oM 12 11,
  gd 12 false (oM 13 3),
  gd 12 false (o1 14 (.iadA 8 1 (.t 1) (.t 13))),
  gd 12 false (oL 15 14),
  gd 12 false (oK 16 .gtr 15 65535),
  o1 17 (.pick (.t 12) kT (.t 16))] false)
  (.cond (.t 17)
  (.seq (.reg [
  oV 2 (.bool false)] false)
  (.ret))
  (.skip))))
  (.reg [
  oM 6 3,
  oK 7 .add 6 1,
  oM 3 7] false))
def fn204 : AFn where
 ntmps := 18
 rs := 0
 results := [.tmp 2]
 body := .seq (.reg [
  o1 1 (.box 8 (.t 0)),
  oV 2 (.bool false)] false)
  (.seq (.seq (.reg [
  oV 3 (.int .i64 0)] false)
  (.block 0 (.loop c204_0)))
  (.seq (.reg [
  oV 2 (.bool true)] false)
  (.ret)))
theorem cfn204 : compFn Tryz.prog 204 = some fn204 := by kernel_rfl
def c205_0 : ACode := .seq (.seq (.reg [
  oM 5 4,
  oK 6 .lss 5 8] false)
  (.cond (.t 6)
  (.skip)
  (.exit 0)))
  (.seq (.block 1 (.reg [
  oM 9 3,
  oM 10 4,
  o1 11 (.iadA 8 1 (.t 1) (.t 10)),
  oL 12 11,
  oB 13 .add 9 12,
  oM 3 13] false))
  (.reg [
  oM 7 4,
  oK 8 .add 7 1,
  oM 4 8] false))
def fn205 : AFn where
 ntmps := 15
 rs := 0
 results := [.tmp 2]
 body := .seq (.reg [
  o1 1 (.box 8 (.t 0)),
  oV 2 (.int .i64 0)] false)
  (.seq (.reg [
  oV 3 (.int .i64 0)] false)
  (.seq (.seq (.reg [
  oV 4 (.int .i64 0)] false)
  (.block 0 (.loop c205_0)))
  (.seq (.reg [
  oM 14 3,
  oM 2 14] false)
  (.ret))))
theorem cfn205 : compFn Tryz.prog 205 = some fn205 := by kernel_rfl
def c206_0 : ACode := .seq (.seq (.reg [
  oM 6 3,
  oK 7 .gtr 6 0,
  oM 8 7,
  gd 8 true (oM 9 0),
  gd 8 true (oM 10 3),
  gd 8 true (oK 11 .sub 10 1),
  gd 8 true (oI 12 1 9 11),
  gd 8 true (oL 13 12),
  gd 8 true (o1 14 (.bin .eql (.t 13) (.c (.int .u32 0)))),
  o1 15 (.pick (.t 8) (.t 14) kF)] false)
  (.cond (.t 15)
  (.skip)
  (.exit 0)))
  (.block 1 (.reg [
  oM 16 3,
  oK 17 .sub 16 1,
  oM 3 17] false))
def fn206 : AFn where
 ntmps := 21
 rs := 1
 results := [.tmp 2]
 body := .seq (.reg [
  oV 2 kE] false)
  (.seq (.reg [
  oM 4 0,
  oN 5 4,
  oM 3 5] false)
  (.seq (.block 0 (.loop c206_0))
  (.seq (.reg [
  oM 18 0,
  oM 19 3,
  o1 20 (.slcS 1 (.t 18) none (some (.t 19)) none),
  oM 2 20] false)
  (.ret))))
theorem cfn206 : compFn Tryz.prog 206 = some fn206 := by kernel_rfl
def fn207 : AFn where
 ntmps := 11
 rs := 0
 results := [.cell 4 true 2]
 body := .seq (.reg [
  o1 2 (.box 2 (.t 0)),
  o1 3 (.box 2 (.t 1)),
  o1 4 (.alloc zInt)] false)
  (.seq (.reg [
  oF 5 1 2,
  oL 6 5,
  oF 7 1 3,
  oL 8 7,
  oC 9 229 [.t 6, .t 8],
  oC 10 179 [kF, (.t 9)],
  oS 2 4 10] false)
  (.ret))
theorem cfn207 : compFn Tryz.prog 207 = some fn207 := by kernel_rfl
def fn208 : AFn where
 ntmps := 9
 rs := 0
 results := [.cell 2 true 2]
 body := .seq (.reg [
  o1 1 (.box 2 (.t 0)),
  o1 2 (.alloc zInt)] false)
  (.seq (.reg [
  oF 3 0 1,
  oL 4 3,
  o1 5 (.un .not (.t 4)),
  oF 6 1 1,
  oL 7 6,
  oC 8 179 [.t 5, .t 7],
  oS 2 2 8] false)
  (.ret))
theorem cfn208 : compFn Tryz.prog 208 = some fn208 := by kernel_rfl
def fn209 : AFn where
 ntmps := 16
 rs := 0
 results := [.cell 4 true 2]
 body := .seq (.reg [
  o1 2 (.box 2 (.t 0)),
  o1 3 (.box 2 (.t 1)),
  o1 4 (.alloc zInt)] false)
  (.seq (.reg [
  oA 9 2 2,
  oA 10 2 3,
  oC 11 230 [.t 9, .t 10],
  oM 8 11,
  oE 12 8 0,
  oE 13 8 1,
  oE 14 8 2,
  o1 5 (.alloc zInt),
  o1 6 (.alloc zInt),
  oS 2 5 12,
  oS 2 6 13,
  oM 7 14] false)
  (.seq (.reg [
  oA 15 2 5,
  oS 2 4 15] false)
  (.ret)))
theorem cfn209 : compFn Tryz.prog 209 = some fn209 := by kernel_rfl
def c210_0 : ACode := .seq (.seq (.reg [
  oM 22 8,
  oM 23 1,
  oN 24 23,
  oB 25 .lss 22 24] false)
  (.cond (.t 25)
  (.skip)
  (.exit 2)))
  (.seq (.block 3 (.seq (.reg [
  oM 28 0,
  oM 29 6,
  oI 30 1 28 29,
  oL 31 30,
  o1 32 (.conv .u64 (.t 31)),
  oM 33 1,
  oM 34 8,
  oI 35 1 33 34,
  oL 36 35,
  o1 37 (.conv .u64 (.t 36)),
  oB 38 .mul 32 37,
  oM 39 5,
  oM 40 6,
  oM 41 8,
  oB 42 .add 40 41,
  oI 43 1 39 42,
  oL 44 43,
  o1 45 (.conv .u64 (.t 44)),
  oB 46 .add 38 45,
  oM 47 7,
  oB 48 .add 46 47,
  oM 9 48] true)
  (.seq (.reg [
  oM 49 5,
  oM 50 6,
  oM 51 8,
  oB 52 .add 50 51,
  oM 53 9,
  o1 54 (.bin .rem (.t 53) (.c (.int .u64 4294967296))),
  o1 55 (.conv .u32 (.t 54)),
  oI 56 1 49 52,
  oS 1 56 55] false)
  (.reg [
  oM 57 9,
  o1 58 (.bin .quo (.t 57) (.c (.int .u64 4294967296))),
  oM 7 58] false))))
  (.reg [
  oM 26 8,
  oK 27 .add 26 1,
  oM 8 27] false))
def c210_1 : ACode := .seq (.seq (.reg [
  oM 16 6,
  oM 17 0,
  oN 18 17,
  oB 19 .lss 16 18] false)
  (.cond (.t 19)
  (.skip)
  (.exit 0)))
  (.seq (.block 1 (.seq (.reg [
  oV 7 (.int .u64 0)] false)
  (.seq (.seq (.reg [
  oV 8 (.int .i64 0)] false)
  (.block 2 (.loop c210_0)))
  (.reg [
  oM 59 5,
  oM 60 6,
  oM 61 1,
  oN 62 61,
  oB 63 .add 60 62,
  oM 64 7,
  o1 65 (.conv .u32 (.t 64)),
  oI 66 1 59 63,
  oS 1 66 65] false))))
  (.reg [
  oM 20 6,
  oK 21 .add 20 1,
  oM 6 21] false))
def fn210 : AFn where
 ntmps := 69
 rs := 1
 results := [.tmp 4]
 body := .seq (.reg [
  oV 4 kE] false)
  (.seq (.reg [
  oM 10 0,
  oN 11 10,
  oM 12 1,
  oN 13 12,
  oB 14 .add 11 13,
  o1 15 (.mksl 1 4 [(.int .u32 0)] (.t 14) (.t 14)),
  oM 5 15] false)
  (.seq (.seq (.reg [
  oV 6 (.int .i64 0)] false)
  (.block 0 (.loop c210_1)))
  (.seq (.reg [
  oM 67 5,
  oC 68 206 [.t 67],
  oM 4 68] false)
  (.ret))))
theorem cfn210 : compFn Tryz.prog 210 = some fn210 := by kernel_rfl
def c211_0 : ACode := .seq (.seq (.reg [
  oM 18 8,
  oM 19 5,
  oB 20 .lss 18 19] false)
  (.cond (.t 20)
  (.skip)
  (.exit 0)))
  (.seq (.block 1 (.seq (.reg [
  oM 23 0,
  oM 24 8,
  oC 25 231 [.t 23, .t 24],
  oM 26 1,
  oM 27 8,
  oC 28 231 [.t 26, .t 27],
  oB 29 .add 25 28,
  oM 30 7,
  oB 31 .add 29 30,
  oM 9 31] false)
  (.seq (.reg [
  oM 32 6,
  oM 33 8,
  oM 34 9,
  o1 35 (.bin .rem (.t 34) (.c (.int .u64 4294967296))),
  o1 36 (.conv .u32 (.t 35)),
  oI 37 1 32 33,
  oS 1 37 36] false)
  (.reg [
  oM 38 9,
  o1 39 (.bin .quo (.t 38) (.c (.int .u64 4294967296))),
  oM 7 39] false))))
  (.reg [
  oM 21 8,
  oK 22 .add 21 1,
  oM 8 22] false))
def fn211 : AFn where
 ntmps := 42
 rs := 1
 results := [.tmp 4]
 body := .seq (.reg [
  oV 4 kE] false)
  (.seq (.reg [
  oM 10 0,
  oN 11 10,
  oM 12 1,
  oN 13 12,
  o1 14 (.maxi [.t 11, .t 13]),
  oK 15 .add 14 1,
  oM 5 15] false)
  (.seq (.reg [
  oM 16 5,
  o1 17 (.mksl 1 4 [(.int .u32 0)] (.t 16) (.t 16)),
  oM 6 17] false)
  (.seq (.reg [
  oV 7 (.int .u64 0)] false)
  (.seq (.seq (.reg [
  oV 8 (.int .i64 0)] false)
  (.block 0 (.loop c211_0)))
  (.seq (.reg [
  oM 40 6,
  oC 41 206 [.t 40],
  oM 4 41] false)
  (.ret))))))
theorem cfn211 : compFn Tryz.prog 211 = some fn211 := by kernel_rfl
def c212_0 : ACode := .seq (.seq (.reg [
  oM 19 5,
  oK 20 .geq 19 0] false)
  (.cond (.t 20)
  (.skip)
  (.exit 0)))
  (.seq (.block 1 (.seq (.seq (.reg [
  oM 23 0,
  oM 24 5,
  oI 25 1 23 24,
  oL 26 25,
  oM 27 1,
  oM 28 5,
  oI 29 1 27 28,
  oL 30 29,
  oB 31 .lss 26 30] true)
  (.cond (.t 31)
  (.seq (.reg [
  oV 4 (.int .i64 (-1))] false)
  (.ret))
  (.skip)))
  (.seq (.reg [
  oM 32 0,
  oM 33 5,
  oI 34 1 32 33,
  oL 35 34,
  oM 36 1,
  oM 37 5,
  oI 38 1 36 37,
  oL 39 38,
  oB 40 .gtr 35 39] true)
  (.cond (.t 40)
  (.seq (.reg [
  oV 4 (.int .i64 1)] false)
  (.ret))
  (.skip)))))
  (.reg [
  oM 21 5,
  oK 22 .sub 21 1,
  oM 5 22] false))
def fn212 : AFn where
 ntmps := 41
 rs := 0
 results := [.tmp 4]
 body := .seq (.reg [
  oV 4 (.int .i64 0)] false)
  (.seq (.seq (.reg [
  oM 6 0,
  oN 7 6,
  oM 8 1,
  oN 9 8,
  oB 10 .lss 7 9] false)
  (.cond (.t 10)
  (.seq (.reg [
  oV 4 (.int .i64 (-1))] false)
  (.ret))
  (.skip)))
  (.seq (.seq (.reg [
  oM 11 0,
  oN 12 11,
  oM 13 1,
  oN 14 13,
  oB 15 .gtr 12 14] false)
  (.cond (.t 15)
  (.seq (.reg [
  oV 4 (.int .i64 1)] false)
  (.ret))
  (.skip)))
  (.seq (.seq (.reg [
  oM 16 0,
  oN 17 16,
  oK 18 .sub 17 1,
  oM 5 18] false)
  (.block 0 (.loop c212_0)))
  (.seq (.reg [
  oV 4 (.int .i64 0)] false)
  (.ret)))))
theorem cfn212 : compFn Tryz.prog 212 = some fn212 := by kernel_rfl
def c213_0 : ACode := .seq (.seq (.reg [
  oM 12 7,
  oM 13 0,
  oN 14 13,
  oB 15 .lss 12 14] false)
  (.cond (.t 15)
  (.skip)
  (.exit 0)))
  (.seq (.block 1 (.seq (.reg [
  oM 18 0,
  oM 19 7,
  oI 20 1 18 19,
  ⟨(some 21), .ld false 1 (.t 20), none, [9]⟩,
  o1 22 (.conv .u64 (.t 21)),
  o1 23 (.bin .add (.c (.int .u64 4294967296)) (.t 22)),
  oM 24 1,
  oM 25 7,
  oC 26 231 [.t 24, .t 25],
  oB 27 .sub 23 26,
  oM 28 6,
  oB 29 .sub 27 28,
  oM 8 29] true)
  (.seq (.reg [
  oM 30 5,
  oM 31 7,
  oM 32 8,
  o1 33 (.bin .rem (.t 32) (.c (.int .u64 4294967296))),
  o1 34 (.conv .u32 (.t 33)),
  oI 35 1 30 31,
  oS 1 35 34] false)
  (.reg [
  oM 36 8,
  o1 37 (.bin .quo (.t 36) (.c (.int .u64 4294967296))),
  o1 38 (.bin .sub (.c (.int .u64 1)) (.t 37)),
  oM 6 38] false))))
  (.reg [
  oM 16 7,
  oK 17 .add 16 1,
  oM 7 17] false))
def fn213 : AFn where
 ntmps := 41
 rs := 1
 results := [.tmp 4]
 body := .seq (.reg [
  oV 4 kE] false)
  (.seq (.reg [
  oM 9 0,
  oN 10 9,
  o1 11 (.mksl 1 4 [(.int .u32 0)] (.t 10) (.t 10)),
  oM 5 11] false)
  (.seq (.reg [
  oV 6 (.int .u64 0)] false)
  (.seq (.seq (.reg [
  oV 7 (.int .i64 0)] false)
  (.block 0 (.loop c213_0)))
  (.seq (.reg [
  oM 39 5,
  oC 40 206 [.t 39],
  oM 4 40] false)
  (.ret)))))
theorem cfn213 : compFn Tryz.prog 213 = some fn213 := by kernel_rfl
def c214_0 : ACode := .seq (.reg [
  oB 12 .lss 11 10] false)
  (.seq (.cond (.t 12)
  (.skip)
  (.exit 0))
  (.seq (.block 1 (.seq (.reg [
  oM 13 11,
  oI 14 1 9 11,
  oL 15 14,
  oM 5 13,
  oM 6 15] false)
  (.seq (.seq (.reg [
  oM 16 5,
  oM 17 1,
  oN 18 17,
  oB 19 .geq 16 18] false)
  (.cond (.t 19)
  (.seq (.reg [
  oV 4 (.int .i64 1)] false)
  (.ret))
  (.skip)))
  (.seq (.reg [
  oM 20 1,
  oM 21 5,
  oI 22 1 20 21,
  oL 23 22,
  oM 7 23] false)
  (.seq (.reg [
  oM 24 6,
  oM 25 7,
  oC 26 232 [.t 24, .t 25],
  oM 8 26] false)
  (.seq (.reg [
  oM 27 8,
  oK 28 .neq 27 0] false)
  (.cond (.t 28)
  (.seq (.reg [
  oM 29 8,
  oM 4 29] false)
  (.ret))
  (.skip))))))))
  (.reg [
  oK 30 .add 11 1,
  oM 11 30] false)))
def fn214 : AFn where
 ntmps := 36
 rs := 0
 results := [.tmp 4]
 body := .seq (.reg [
  oV 4 (.int .i64 0)] false)
  (.seq (.seq (.reg [
  oM 9 0,
  oN 10 9,
  oV 11 (.int .i64 0)] false)
  (.block 0 (.loop c214_0)))
  (.seq (.seq (.reg [
  oM 31 0,
  oN 32 31,
  oM 33 1,
  oN 34 33,
  oB 35 .lss 32 34] false)
  (.cond (.t 35)
  (.seq (.reg [
  oV 4 (.int .i64 (-1))] false)
  (.ret))
  (.skip)))
  (.seq (.reg [
  oV 4 (.int .i64 0)] false)
  (.ret))))
theorem cfn214 : compFn Tryz.prog 214 = some fn214 := by kernel_rfl
def fn215 : AFn where
 ntmps := 24
 rs := 0
 results := [.tmp 4]
 body := .seq (.reg [
  o1 2 (.box 2 (.t 0)),
  o1 3 (.box 2 (.t 1)),
  oV 4 (.int .i64 0)] false)
  (.seq (.seq (.reg [
  oF 5 0 2,
  oL 6 5,
  oF 7 0 3,
  oL 8 7,
  o1 9 (.eqb true (.t 6) (.t 8))] false)
  (.cond (.t 9)
  (.seq (.reg [
  oA 10 2 2,
  oC 11 222 [.t 10],
  ⟨(some 12), .ld true 2 (.t 3), none, [0]⟩,
  oC 13 222 [.t 12],
  oC 14 232 [.t 11, .t 13],
  oM 4 14] true)
  (.ret))
  (.skip)))
  (.seq (.seq (.reg [
  oF 15 0 2,
  oL 16 15] false)
  (.cond (.t 16)
  (.reg [
  oA 17 2 3,
  oA 18 2 2,
  oS 2 2 17,
  oS 2 3 18] false)
  (.skip)))
  (.seq (.reg [
  oF 19 1 2,
  oL 20 19,
  oF 21 1 3,
  oL 22 21,
  oC 23 233 [.t 20, .t 22],
  oM 4 23] false)
  (.ret))))
theorem cfn215 : compFn Tryz.prog 215 = some fn215 := by kernel_rfl
def c216_0 : ACode := .seq (.reg [
  oB 10 .lss 9 8] false)
  (.seq (.cond (.t 10)
  (.skip)
  (.exit 0))
  (.seq (.block 1 (.seq (.reg [
  oI 11 2 7 9,
  oA 12 2 11,
  o1 5 (.alloc zInt),
  oS 2 5 12] false)
  (.reg [
  oA 13 2 3,
  oA 14 2 5,
  oC 15 234 [.t 13, .t 14],
  oS 2 3 15] false)))
  (.reg [
  oK 16 .add 9 1,
  oM 9 16] false)))
def fn216 : AFn where
 ntmps := 18
 rs := 0
 results := [.cell 2 true 2]
 body := .seq (.reg [
  o1 2 (.alloc zInt)] false)
  (.seq (.reg [
  oC 6 224 [(kI 1)],
  o1 3 (.alloc zInt),
  oS 2 3 6] false)
  (.seq (.seq (.reg [
  oM 7 0,
  oN 8 7,
  oV 9 (.int .i64 0)] false)
  (.block 0 (.loop c216_0)))
  (.seq (.reg [
  oA 17 2 3,
  oS 2 2 17] false)
  (.ret))))
theorem cfn216 : compFn Tryz.prog 216 = some fn216 := by kernel_rfl
def fn217 : AFn where
 ntmps := 21
 rs := 0
 results := []
 body := .seq (.reg [
  o1 4 (.box 4 (.t 1)),
  o1 5 (.box 8 (.t 2))] false)
  (.seq (.seq (.reg [
  oM 9 0,
  oA 10 8 5,
  o1 11 (.lkp 10 true zRat (.t 9) (.t 10) true),
  oM 8 11,
  oE 12 8 0,
  oE 13 8 1,
  o1 6 (.alloc zRat),
  oS 4 6 12,
  oM 7 13] false)
  (.seq (.reg [
  oM 14 7] false)
  (.cond (.t 14)
  (.reg [
  oA 15 4 6,
  oA 16 4 4,
  oC 17 235 [.t 15, .t 16],
  oS 4 4 17] false)
  (.skip))))
  (.reg [
  oM 18 0,
  oA 19 8 5,
  oA 20 4 4,
  o0 (.mup 10 (.t 18) (.t 19) (.t 20))] false))
theorem cfn217 : compFn Tryz.prog 217 = some fn217 := by kernel_rfl
def c218_0 : ACode := .seq (.bad)
  (.seq (.cond (.t 10)
  (.skip)
  (.exit 0))
  (.block 1 (.seq (.bad)
  (.seq (.reg [
  oA 14 4 5,
  oC 15 197 [.t 14],
  oK 16 .neq 15 0] false)
  (.cond (.t 16)
  (.reg [
  oM 17 3,
  oA 18 4 5,
  oA 19 8 4,
  o1 20 (.build zTerm [(0, 4, (.t 18)), (4, 8, (.t 19))]),
  o1 21 (.bsl 12 1 zTerm [(0, 12, (.t 20))]),
  o1 22 (.app 12 128 (.t 17) (.t 21)),
  oM 3 22] false)
  (.skip))))))
def fn218 : AFn where
 ntmps := 26
 rs := 12
 results := [.tmp 2]
 body := .seq (.reg [
  oV 2 kE] false)
  (.seq (.reg [
  o1 6 (.bsl 12 0 zTerm []),
  oM 3 6] false)
  (.seq (.seq (.bad)
  (.block 0 (.loop c218_0)))
  (.seq (.reg [
  oM 23 3,
  oC 24 236 [(.t 23), (.c (.func 237 [] []))]] false)
  (.seq (.reg [
  oM 25 3,
  oM 2 25] false)
  (.ret)))))
theorem cfn218 : compFn Tryz.prog 218 = some fn218 := by kernel_rfl
def c219_0 : ACode := .seq (.seq (.reg [
  oM 7 2,
  oM 8 3,
  oB 9 .lss 7 8] false)
  (.cond (.t 9)
  (.skip)
  (.exit 0)))
  (.seq (.block 1 (.reg [
  oM 14 0,
  oM 15 2,
  oM 16 0,
  oM 17 3,
  oM 18 0,
  oM 19 3,
  oI 20 1 18 19,
  oL 21 20,
  oM 22 0,
  oM 23 2,
  oI 24 1 22 23,
  oL 25 24,
  oI 26 1 14 15,
  oS 1 26 21,
  oI 27 1 16 17,
  oS 1 27 25] true))
  (.reg [
  oM 10 2,
  oK 11 .add 10 1,
  oM 12 3,
  oK 13 .sub 12 1,
  oM 2 11,
  oM 3 13] false))
def fn219 : AFn where
 ntmps := 28
 rs := 0
 results := []
 body := .seq (.reg [
  oM 4 0,
  oN 5 4,
  oK 6 .sub 5 1,
  oV 2 (.int .i64 0),
  oM 3 6] false)
  (.block 0 (.loop c219_0))
theorem cfn219 : compFn Tryz.prog 219 = some fn219 := by kernel_rfl
def fn220 : AFn where
 ntmps := 14
 rs := 0
 results := []
 body := .seq (.reg [
  oM 4 0,
  oM 5 1,
  o1 6 (.slcS 1 (.t 4) none (some (.t 5)) none),
  oC 7 238 [.t 6]] false)
  (.seq (.reg [
  oM 8 0,
  oM 9 1,
  o1 10 (.slcS 1 (.t 8) (some (.t 9)) none none),
  oC 11 238 [.t 10]] false)
  (.reg [
  oM 12 0,
  oC 13 238 [.t 12]] false))
theorem cfn220 : compFn Tryz.prog 220 = some fn220 := by kernel_rfl
def fn221 : AFn where
 ntmps := 19
 rs := 0
 results := [.tmp 2]
 body := .seq (.reg [
  o1 1 (.box 2 (.t 0)),
  oV 2 (.bool false)] false)
  (.seq (.seq (.reg [
  oF 4 1 1,
  oL 5 4,
  oN 6 5,
  oM 3 6] false)
  (.seq (.reg [
  oM 7 3,
  oK 8 .gtr 7 0] false)
  (.cond (.t 8)
  (.seq (.reg [
  oF 9 1 1,
  oL 10 9,
  oM 11 3,
  oK 12 .sub 11 1,
  oI 13 1 10 12,
  oL 14 13,
  o1 15 (.bin .neq (.t 14) (.c (.int .u32 0))),
  oM 2 15] false)
  (.ret))
  (.skip))))
  (.seq (.reg [
  oF 16 0 1,
  oL 17 16,
  o1 18 (.un .not (.t 17)),
  oM 2 18] false)
  (.ret)))
theorem cfn221 : compFn Tryz.prog 221 = some fn221 := by kernel_rfl
def fn222 : AFn where
 ntmps := 9
 rs := 0
 results := [.tmp 2]
 body := .seq (.reg [
  o1 1 (.box 2 (.t 0)),
  oV 2 (.int .i64 0)] false)
  (.seq (.seq (.reg [
  oF 3 0 1,
  oL 4 3] false)
  (.cond (.t 4)
  (.seq (.reg [
  oV 2 (.int .i64 (-1))] false)
  (.ret))
  (.skip)))
  (.seq (.reg [
  oF 5 1 1,
  oL 6 5,
  oN 7 6,
  o1 8 (.mini [(.t 7), (kI 1)]),
  oM 2 8] false)
  (.ret)))
theorem cfn222 : compFn Tryz.prog 222 = some fn222 := by kernel_rfl
def c223_0 : ACode := .seq (.seq (.reg [
  oM 13 6,
  oN 14 13,
  oK 15 .gtr 14 0] false)
  (.cond (.t 15)
  (.skip)
  (.exit 0)))
  (.block 1 (.seq (.reg [
  oM 17 5,
  oM 18 6,
  oC 19 239 [.t 17, .t 18],
  oM 16 19,
  oE 20 16 0,
  oE 21 16 1,
  oM 7 20,
  oM 8 21] false)
  (.reg [
  oM 22 6,
  oM 23 8,
  oM 5 22,
  oM 6 23] false)))
def fn223 : AFn where
 ntmps := 26
 rs := 0
 results := [.cell 4 true 2]
 body := .seq (.reg [
  o1 2 (.box 2 (.t 0)),
  o1 3 (.box 2 (.t 1)),
  o1 4 (.alloc zInt)] false)
  (.seq (.reg [
  oF 9 1 2,
  oL 10 9,
  oF 11 1 3,
  oL 12 11,
  oM 5 10,
  oM 6 12] true)
  (.seq (.block 0 (.loop c223_0))
  (.seq (.reg [
  oM 24 5,
  oC 25 240 [(.t 24), kF],
  oS 2 4 25] false)
  (.ret))))
theorem cfn223 : compFn Tryz.prog 223 = some fn223 := by kernel_rfl
def fn224 : AFn where
 ntmps := 14
 rs := 0
 results := [.cell 2 true 2]
 body := .seq (.reg [
  o1 2 (.alloc zInt)] false)
  (.seq (.seq (.reg [
  oM 3 0,
  oK 4 .lss 3 0] false)
  (.cond (.t 4)
  (.seq (.reg [
  oM 5 0,
  o1 6 (.conv .u64 (.t 5)),
  o1 7 (.un .neg (.t 6)),
  oC 8 241 [.t 7],
  oC 9 240 [(.t 8), kT],
  oS 2 2 9] false)
  (.ret))
  (.skip)))
  (.seq (.reg [
  oM 10 0,
  o1 11 (.conv .u64 (.t 10)),
  oC 12 241 [.t 11],
  oC 13 240 [(.t 12), kF],
  oS 2 2 13] false)
  (.ret)))
theorem cfn224 : compFn Tryz.prog 224 = some fn224 := by kernel_rfl
def fn225 : AFn where
 ntmps := 14
 rs := 0
 results := []
 body := .seq (.reg [
  oM 4 0,
  oM 5 1,
  o1 6 (.slcS 2 (.t 4) none (some (.t 5)) none),
  oC 7 242 [.t 6]] false)
  (.seq (.reg [
  oM 8 0,
  oM 9 1,
  o1 10 (.slcS 2 (.t 8) (some (.t 9)) none none),
  oC 11 242 [.t 10]] false)
  (.reg [
  oM 12 0,
  oC 13 242 [.t 12]] false))
theorem cfn225 : compFn Tryz.prog 225 = some fn225 := by kernel_rfl
def c226_0 : ACode := .seq (.seq (.reg [
  oM 5 4,
  oM 6 0,
  oB 7 .lss 5 6] false)
  (.cond (.t 7)
  (.skip)
  (.exit 0)))
  (.seq (.block 1 (.reg [
  oM 10 3,
  o1 11 (.bin .mul (kI 2) (.t 10)),
  oM 3 11] false))
  (.reg [
  oM 8 4,
  oK 9 .add 8 1,
  oM 4 9] false))
def fn226 : AFn where
 ntmps := 14
 rs := 0
 results := [.tmp 2]
 body := .seq (.reg [
  oV 2 (.int .u8 0)] false)
  (.seq (.reg [
  oV 3 (.int .i64 1)] false)
  (.seq (.seq (.reg [
  oV 4 (.int .i64 0)] false)
  (.block 0 (.loop c226_0)))
  (.seq (.reg [
  oM 12 3,
  o1 13 (.conv .u8 (.t 12)),
  oM 2 13] false)
  (.ret))))
theorem cfn226 : compFn Tryz.prog 226 = some fn226 := by kernel_rfl
def fn227 : AFn where
 ntmps := 19
 rs := 0
 results := [.tmp 2]
 body := .seq (.reg [
  o1 1 (.box 2 (.t 0)),
  oV 2 (.bool false)] false)
  (.seq (.reg [
  oF 4 1 1,
  oL 5 4,
  oN 6 5,
  oM 3 6] false)
  (.seq (.seq (.reg [
  oM 7 3,
  oK 8 .eql 7 0] false)
  (.cond (.t 8)
  (.seq (.reg [
  oF 9 0 1,
  oL 10 9,
  o1 11 (.un .not (.t 10)),
  oM 2 11] false)
  (.ret))
  (.skip)))
  (.seq (.reg [
  oF 12 1 1,
  oL 13 12,
  oM 14 3,
  oK 15 .sub 14 1,
  oI 16 1 13 15,
  oL 17 16,
  o1 18 (.bin .neq (.t 17) (.c (.int .u32 0))),
  oM 2 18] false)
  (.ret))))
theorem cfn227 : compFn Tryz.prog 227 = some fn227 := by kernel_rfl
def fn228 : AFn where
 ntmps := 31
 rs := 0
 results := [.tmp 4]
 body := .seq (.reg [
  o1 2 (.box 2 (.t 0)),
  o1 3 (.box 2 (.t 1)),
  oV 4 (.int .i64 0)] false)
  (.seq (.seq (.reg [
  oF 5 0 2,
  oL 6 5,
  oM 7 6,
  gd 7 true (oF 8 0 3),
  gd 7 true (oL 9 8),
  gd 7 true (o1 10 (.un .not (.t 9))),
  o1 11 (.pick (.t 7) (.t 10) kF)] false)
  (.cond (.t 11)
  (.seq (.reg [
  oV 4 (.int .i64 (-1))] false)
  (.ret))
  (.skip)))
  (.seq (.seq (.reg [
  oF 12 0 2,
  oL 13 12,
  o1 14 (.un .not (.t 13)),
  oM 15 14,
  gd 15 true (oF 16 0 3),
  gd 15 true (oL 17 16),
  o1 18 (.pick (.t 15) (.t 17) kF)] false)
  (.cond (.t 18)
  (.seq (.reg [
  oV 4 (.int .i64 1)] false)
  (.ret))
  (.skip)))
  (.seq (.seq (.reg [
  oF 19 0 2,
  oL 20 19] false)
  (.cond (.t 20)
  (.seq (.reg [
  oF 21 1 3,
  oL 22 21,
  oF 23 1 2,
  oL 24 23,
  oC 25 212 [.t 22, .t 24],
  oM 4 25] false)
  (.ret))
  (.skip)))
  (.seq (.reg [
  oF 26 1 2,
  oL 27 26,
  oF 28 1 3,
  oL 29 28,
  oC 30 212 [.t 27, .t 29],
  oM 4 30] false)
  (.ret)))))
theorem cfn228 : compFn Tryz.prog 228 = some fn228 := by kernel_rfl
def c229_0 : ACode := .seq (.seq (.reg [
  oM 7 1,
  oN 8 7,
  oK 9 .gtr 8 0] false)
  (.cond (.t 9)
  (.skip)
  (.exit 0)))
  (.block 1 (.seq (.seq (.reg [
  oM 10 0,
  oN 11 10,
  oK 12 .leq 11 2,
  oM 13 12,
  gd 13 true (oM 14 1),
  gd 13 true (oN 15 14),
  gd 13 true (oK 16 .leq 15 2),
  o1 17 (.pick (.t 13) (.t 16) kF)] false)
  (.cond (.t 17)
  (.seq (.reg [
  oM 18 0,
  oC 19 244 [.t 18],
  oM 20 1,
  oC 21 244 [.t 20],
  oC 22 243 [.t 19, .t 21],
  oC 23 180 [.t 22],
  oM 4 23] false)
  (.ret))
  (.skip)))
  (.seq (.reg [
  oM 25 0,
  oM 26 1,
  oC 27 245 [.t 25, .t 26],
  oM 24 27,
  oE 28 24 0,
  oE 29 24 1,
  oM 5 28,
  oM 6 29] false)
  (.seq (.reg [
  oM 30 1,
  oM 0 30] false)
  (.reg [
  oM 31 6,
  oM 1 31] false)))))
def fn229 : AFn where
 ntmps := 33
 rs := 1
 results := [.tmp 4]
 body := .seq (.reg [
  oV 4 kE] false)
  (.seq (.block 0 (.loop c229_0))
  (.seq (.reg [
  oM 32 0,
  oM 4 32] false)
  (.ret)))
theorem cfn229 : compFn Tryz.prog 229 = some fn229 := by kernel_rfl
def fn230 : AFn where
 ntmps := 46
 rs := 0
 results := [.cell 4 true 2, .cell 5 true 2, .tmp 6]
 body := .seq (.reg [
  o1 2 (.box 2 (.t 0)),
  o1 3 (.box 2 (.t 1)),
  o1 4 (.alloc zInt),
  o1 5 (.alloc zInt),
  oV 6 (.int .i64 0)] false)
  (.seq (.seq (.reg [
  oF 9 1 3,
  oL 10 9,
  oN 11 10,
  oK 12 .eql 11 0] false)
  (.cond (.t 12)
  (.seq (.reg [
  o1 13 (.build zInt []),
  o1 14 (.build zInt []),
  oS 2 4 13,
  oS 2 5 14,
  oV 6 (.int .i64 10)] false)
  (.ret))
  (.skip)))
  (.seq (.reg [
  oF 16 1 2,
  oL 17 16,
  oF 18 1 3,
  oL 19 18,
  oC 20 245 [.t 17, .t 19],
  oM 15 20,
  oE 21 15 0,
  oE 22 15 1,
  oM 7 21,
  oM 8 22] false)
  (.seq (.seq (.reg [
  oF 23 0 2,
  oL 24 23,
  oM 25 24,
  gd 25 true (oM 26 8),
  gd 25 true (oN 27 26),
  gd 25 true (oK 28 .gtr 27 0),
  o1 29 (.pick (.t 25) (.t 28) kF)] false)
  (.cond (.t 29)
  (.seq (.reg [
  oM 30 7,
  o1 31 (.bsl 1 1 [(.int .u32 0)] [(0, 1, (.c (.int .u32 1)))]),
  oC 32 211 [.t 30, .t 31],
  oM 7 32] false)
  (.reg [
  oF 33 1 3,
  oL 34 33,
  oM 35 8,
  oC 36 213 [.t 34, .t 35],
  oM 8 36] false))
  (.skip)))
  (.seq (.reg [
  oF 37 0 2,
  oL 38 37,
  oF 39 0 3,
  oL 40 39,
  o1 41 (.eqb true (.t 38) (.t 40)),
  oM 42 7,
  oC 43 179 [.t 41, .t 42],
  oM 44 8,
  oC 45 179 [kF, (.t 44)],
  oS 2 4 43,
  oS 2 5 45,
  oV 6 (.int .i64 0)] false)
  (.ret)))))
theorem cfn230 : compFn Tryz.prog 230 = some fn230 := by kernel_rfl
def fn231 : AFn where
 ntmps := 14
 rs := 0
 results := [.tmp 4]
 body := .seq (.reg [
  oV 4 (.int .u64 0)] false)
  (.seq (.seq (.reg [
  oM 5 1,
  oM 6 0,
  oN 7 6,
  oB 8 .lss 5 7] false)
  (.cond (.t 8)
  (.seq (.reg [
  oM 9 0,
  oM 10 1,
  oI 11 1 9 10,
  oL 12 11,
  o1 13 (.conv .u64 (.t 12)),
  oM 4 13] false)
  (.ret))
  (.skip)))
  (.seq (.reg [
  oV 4 (.int .u64 0)] false)
  (.ret)))
theorem cfn231 : compFn Tryz.prog 231 = some fn231 := by kernel_rfl
def fn232 : AFn where
 ntmps := 20
 rs := 0
 results := [.tmp 4]
 body := .seq (.reg [
  oV 4 (.int .i64 0)] false)
  (.seq (.reg [
  oM 7 0,
  oC 8 246 [.t 7],
  oM 5 8] false)
  (.seq (.reg [
  oM 9 1,
  oC 10 246 [.t 9],
  oM 6 10] false)
  (.seq (.seq (.reg [
  oM 11 5] false)
  (.cond (.t 11)
  (.seq (.seq (.reg [
  oM 12 6] false)
  (.cond (.t 12)
  (.seq (.reg [
  oV 4 (.int .i64 0)] false)
  (.ret))
  (.skip)))
  (.seq (.reg [
  oV 4 (.int .i64 (-1))] false)
  (.ret)))
  (.skip)))
  (.seq (.seq (.reg [
  oM 13 6] false)
  (.cond (.t 13)
  (.seq (.reg [
  oV 4 (.int .i64 1)] false)
  (.ret))
  (.skip)))
  (.seq (.seq (.reg [
  oM 14 0,
  oM 15 1,
  oB 16 .lss 14 15] false)
  (.cond (.t 16)
  (.seq (.reg [
  oV 4 (.int .i64 (-1))] false)
  (.ret))
  (.skip)))
  (.seq (.seq (.reg [
  oM 17 0,
  oM 18 1,
  oB 19 .gtr 17 18] false)
  (.cond (.t 19)
  (.seq (.reg [
  oV 4 (.int .i64 1)] false)
  (.ret))
  (.skip)))
  (.seq (.reg [
  oV 4 (.int .i64 0)] false)
  (.ret))))))))
theorem cfn232 : compFn Tryz.prog 232 = some fn232 := by kernel_rfl
def c233_0 : ACode := .seq (.reg [
  oB 20 .lss 19 18] false)
  (.seq (.cond (.t 20)
  (.skip)
  (.exit 0))
  (.seq (.block 1 (.seq (.reg [
  oM 21 19,
  oM 5 21] false)
  (.seq (.reg [
  oM 22 0,
  oN 23 22,
  oK 24 .sub 23 1,
  oM 25 5,
  oB 26 .sub 24 25,
  oM 6 26] false)
  (.seq (.reg [
  oM 27 0,
  oM 28 6,
  oI 29 1 27 28,
  oL 30 29,
  oM 31 1,
  oM 32 6,
  oI 33 1 31 32,
  oL 34 33,
  oB 35 .neq 30 34] true)
  (.cond (.t 35)
  (.seq (.reg [
  oM 36 0,
  oM 37 6,
  oI 38 1 36 37,
  oL 39 38,
  oM 40 1,
  oM 41 6,
  oI 42 1 40 41,
  oL 43 42,
  oC 44 247 [.t 39, .t 43],
  oM 4 44] true)
  (.ret))
  (.skip))))))
  (.reg [
  oK 45 .add 19 1,
  oM 19 45] false)))
def fn233 : AFn where
 ntmps := 46
 rs := 0
 results := [.tmp 4]
 body := .seq (.reg [
  oV 4 (.int .i64 0)] false)
  (.seq (.seq (.reg [
  oM 7 0,
  oN 8 7,
  oM 9 1,
  oN 10 9,
  oB 11 .neq 8 10] false)
  (.cond (.t 11)
  (.seq (.reg [
  oM 12 0,
  oN 13 12,
  oM 14 1,
  oN 15 14,
  oC 16 232 [.t 13, .t 15],
  oM 4 16] false)
  (.ret))
  (.skip)))
  (.seq (.seq (.reg [
  oM 17 0,
  oN 18 17,
  oV 19 (.int .i64 0)] false)
  (.block 0 (.loop c233_0)))
  (.seq (.reg [
  oV 4 (.int .i64 0)] false)
  (.ret))))
theorem cfn233 : compFn Tryz.prog 233 = some fn233 := by kernel_rfl
def fn234 : AFn where
 ntmps := 16
 rs := 0
 results := [.cell 4 true 2]
 body := .seq (.reg [
  o1 2 (.box 2 (.t 0)),
  o1 3 (.box 2 (.t 1)),
  o1 4 (.alloc zInt)] false)
  (.seq (.reg [
  oF 5 1 2,
  oL 6 5,
  oF 7 1 3,
  oL 8 7,
  oC 9 248 [.t 6, .t 8],
  oF 10 0 2,
  ⟨(some 11), .ld false 1 (.t 10), none, [0]⟩,
  oF 12 0 3,
  ⟨(some 13), .ld false 1 (.t 12), none, [0]⟩,
  o1 14 (.eqb true (.t 11) (.t 13)),
  oC 15 240 [.t 9, .t 14],
  oS 2 4 15] true)
  (.ret))
theorem cfn234 : compFn Tryz.prog 234 = some fn234 := by kernel_rfl
def fn235 : AFn where
 ntmps := 25
 rs := 0
 results := [.cell 4 true 4]
 body := .seq (.reg [
  o1 2 (.box 4 (.t 0)),
  o1 3 (.box 4 (.t 1)),
  o1 4 (.alloc zRat)] false)
  (.seq (.reg [
  oF 5 0 2,
  oA 6 2 5,
  oF 7 2 3,
  oA 8 2 7,
  o1 9 (.bsl 2 2 zInt [(0, 2, (.t 6)), (2, 2, (.t 8))]),
  oC 10 216 [.t 9],
  oF 11 0 3,
  ⟨(some 12), .ld true 2 (.t 11), none, [0]⟩,
  oF 13 2 2,
  ⟨(some 14), .ld true 2 (.t 13), none, [0]⟩,
  o1 15 (.bsl 2 2 zInt [(0, 2, (.t 12)), (2, 2, (.t 14))]),
  oC 16 216 [.t 15],
  oC 17 250 [.t 10, .t 16],
  oF 18 2 2,
  ⟨(some 19), .ld true 2 (.t 18), none, [0, 6, 12]⟩,
  oF 20 2 3,
  ⟨(some 21), .ld true 2 (.t 20), none, [0, 6, 12]⟩,
  o1 22 (.bsl 2 2 zInt [(0, 2, (.t 19)), (2, 2, (.t 21))]),
  oC 23 216 [.t 22],
  oC 24 249 [.t 17, .t 23],
  oS 4 4 24] true)
  (.ret))
theorem cfn235 : compFn Tryz.prog 235 = some fn235 := by kernel_rfl
def fn236 : AFn where
 ntmps := 14
 rs := 0
 results := []
 body := .seq (.reg [
  oM 5 0,
  oN 6 5,
  oM 4 6] false)
  (.reg [
  oM 7 0,
  oM 8 4,
  oM 9 4,
  o1 10 (.conv .u64 (.t 9)),
  oC 11 252 [.t 10],
  oM 12 1,
  oC 13 251 [(.t 7), (kI 0), (.t 8), (.t 11), (.t 12)]] false)
theorem cfn236 : compFn Tryz.prog 236 = some fn236 := by kernel_rfl
def fn237 : AFn where
 ntmps := 10
 rs := 0
 results := [.tmp 4]
 body := .seq (.reg [
  o1 2 (.box 12 (.t 0)),
  o1 3 (.box 12 (.t 1)),
  oV 4 (.int .i64 0)] false)
  (.seq (.reg [
  oF 5 4 3,
  oA 6 8 5,
  oF 7 4 2,
  oA 8 8 7,
  oC 9 186 [.t 6, .t 8],
  oM 4 9] false)
  (.ret))
theorem cfn237 : compFn Tryz.prog 237 = some fn237 := by kernel_rfl
def c238_0 : ACode := .seq (.seq (.reg [
  oM 7 2,
  oM 8 3,
  oB 9 .lss 7 8] false)
  (.cond (.t 9)
  (.skip)
  (.exit 0)))
  (.seq (.block 1 (.reg [
  oM 14 0,
  oM 15 2,
  oM 16 0,
  oM 17 3,
  oM 18 0,
  oM 19 3,
  oI 20 1 18 19,
  oL 21 20,
  oM 22 0,
  oM 23 2,
  oI 24 1 22 23,
  oL 25 24,
  oI 26 1 14 15,
  oS 1 26 21,
  oI 27 1 16 17,
  oS 1 27 25] true))
  (.reg [
  oM 10 2,
  oK 11 .add 10 1,
  oM 12 3,
  oK 13 .sub 12 1,
  oM 2 11,
  oM 3 13] false))
def fn238 : AFn where
 ntmps := 28
 rs := 0
 results := []
 body := .seq (.reg [
  oM 4 0,
  oN 5 4,
  oK 6 .sub 5 1,
  oV 2 (.int .i64 0),
  oM 3 6] false)
  (.block 0 (.loop c238_0))
theorem cfn238 : compFn Tryz.prog 238 = some fn238 := by kernel_rfl
def c239_0 : ACode := .seq (.reg [
  oB 57 .lss 56 55] false)
  (.seq (.cond (.t 57)
  (.skip)
  (.exit 0))
  (.seq (.block 1 (.seq (.reg [
  oM 58 56,
  oM 12 58] false)
  (.seq (.reg [
  oM 59 11,
  oN 60 59,
  oK 61 .sub 60 1,
  oM 62 12,
  oB 63 .sub 61 62,
  oM 13 63] false)
  (.reg [
  oM 64 11,
  oM 65 13,
  oM 66 9,
  oM 67 13,
  oM 68 13,
  oM 69 10,
  oN 70 69,
  oB 71 .add 68 70,
  oK 72 .add 71 1,
  o1 73 (.slcS 1 (.t 66) (some (.t 67)) (some (.t 72)) none),
  oM 74 10,
  oC 75 257 [.t 73, .t 74],
  oI 76 1 64 65,
  oS 1 76 75] false))))
  (.reg [
  oK 77 .add 56 1,
  oM 56 77] false)))
def fn239 : AFn where
 ntmps := 84
 rs := 1
 results := [.tmp 4, .tmp 5]
 body := .seq (.reg [
  oV 4 kE,
  oV 5 kE] false)
  (.seq (.seq (.reg [
  oM 14 0,
  oM 15 1,
  oC 16 233 [.t 14, .t 15],
  oK 17 .lss 16 0] false)
  (.cond (.t 17)
  (.seq (.reg [
  oM 18 0,
  oV 4 kE,
  oM 5 18] false)
  (.ret))
  (.skip)))
  (.seq (.seq (.reg [
  oM 19 1,
  oN 20 19,
  oK 21 .eql 20 1] false)
  (.cond (.t 21)
  (.seq (.reg [
  oM 23 0,
  oM 24 1,
  o1 25 (.iadS 1 (.t 24) (kI 0)),
  oL 26 25,
  oC 27 253 [.t 23, .t 26],
  oM 22 27,
  oE 28 22 0,
  oE 29 22 1,
  oM 6 28,
  oM 7 29] false)
  (.seq (.reg [
  oM 30 6,
  oM 31 7,
  o1 32 (.bsl 1 1 [(.int .u32 0)] [(0, 1, (.t 31))]),
  oC 33 254 [.t 32],
  oM 4 30,
  oM 5 33] false)
  (.ret)))
  (.skip)))
  (.seq (.reg [
  oM 34 1,
  oM 35 1,
  oN 36 35,
  oK 37 .sub 36 1,
  oI 38 1 34 37,
  oL 39 38,
  oC 40 255 [.t 39],
  oM 8 40] false)
  (.seq (.reg [
  oM 41 0,
  oM 42 8,
  oC 43 256 [.t 41, .t 42],
  oM 44 1,
  oM 45 8,
  oC 46 256 [.t 44, .t 45],
  oC 47 254 [.t 46],
  oM 9 43,
  oM 10 47] false)
  (.seq (.reg [
  oM 48 9,
  oN 49 48,
  oM 50 10,
  oN 51 50,
  oB 52 .sub 49 51,
  o1 53 (.mksl 1 4 [(.int .u32 0)] (.t 52) (.t 52)),
  oM 11 53] false)
  (.seq (.seq (.reg [
  oM 54 11,
  oN 55 54,
  oV 56 (.int .i64 0)] false)
  (.block 0 (.loop c239_0)))
  (.seq (.reg [
  oM 78 11,
  oC 79 254 [.t 78],
  oM 80 9,
  oC 81 254 [.t 80],
  oM 82 8,
  oC 83 258 [.t 81, .t 82],
  oM 4 79,
  oM 5 83] false)
  (.ret))))))))
theorem cfn239 : compFn Tryz.prog 239 = some fn239 := by kernel_rfl
def fn240 : AFn where
 ntmps := 16
 rs := 0
 results := [.cell 4 true 2]
 body := .seq (.reg [
  o1 4 (.alloc zInt)] false)
  (.seq (.reg [
  oM 5 0,
  oC 6 254 [.t 5],
  oM 0 6] false)
  (.seq (.reg [
  oM 7 1,
  oM 8 7,
  gd 8 true (oM 9 0),
  gd 8 true (oN 10 9),
  gd 8 true (oK 11 .gtr 10 0),
  o1 12 (.pick (.t 8) (.t 11) kF),
  oM 13 0,
  oC 14 259 [.t 13],
  o1 15 (.build zInt [(0, 1, (.t 12)), (1, 1, (.t 14))]),
  oS 2 4 15] false)
  (.ret)))
theorem cfn240 : compFn Tryz.prog 240 = some fn240 := by kernel_rfl
def fn241 : AFn where
 ntmps := 10
 rs := 1
 results := [.tmp 2]
 body := .seq (.reg [
  oV 2 kE] false)
  (.seq (.reg [
  oM 3 0,
  o1 4 (.conv .u32 (.t 3)),
  oM 5 0,
  o1 6 (.bin .shr (.t 5) (.c (.int .u64 32))),
  o1 7 (.conv .u32 (.t 6)),
  o1 8 (.bsl 1 2 [(.int .u32 0)] [(0, 1, (.t 4)), (1, 1, (.t 7))]),
  oC 9 254 [.t 8],
  oM 2 9] false)
  (.ret))
theorem cfn241 : compFn Tryz.prog 241 = some fn241 := by kernel_rfl
def c242_0 : ACode := .seq (.seq (.reg [
  oM 7 2,
  oM 8 3,
  oB 9 .lss 7 8] false)
  (.cond (.t 9)
  (.skip)
  (.exit 0)))
  (.seq (.block 1 (.reg [
  oM 14 0,
  oM 15 2,
  oM 16 0,
  oM 17 3,
  oM 18 0,
  oM 19 3,
  oI 20 2 18 19,
  oA 21 2 20,
  oM 22 0,
  oM 23 2,
  oI 24 2 22 23,
  oA 25 2 24,
  oI 26 2 14 15,
  oS 2 26 21,
  oI 27 2 16 17,
  oS 2 27 25] true))
  (.reg [
  oM 10 2,
  oK 11 .add 10 1,
  oM 12 3,
  oK 13 .sub 12 1,
  oM 2 11,
  oM 3 13] false))
def fn242 : AFn where
 ntmps := 28
 rs := 0
 results := []
 body := .seq (.reg [
  oM 4 0,
  oN 5 4,
  oK 6 .sub 5 1,
  oV 2 (.int .i64 0),
  oM 3 6] false)
  (.block 0 (.loop c242_0))
theorem cfn242 : compFn Tryz.prog 242 = some fn242 := by kernel_rfl
def c243_0 : ACode := .seq (.seq (.reg [
  oM 6 1,
  o1 7 (.bin .gtr (.t 6) (.c (.int .u64 0)))] false)
  (.cond (.t 7)
  (.skip)
  (.exit 0)))
  (.block 1 (.seq (.reg [
  oM 8 0,
  oM 9 1,
  oB 10 .rem 8 9,
  oM 5 10] false)
  (.seq (.reg [
  oM 11 1,
  oM 0 11] false)
  (.reg [
  oM 12 5,
  oM 1 12] false))))
def fn243 : AFn where
 ntmps := 14
 rs := 0
 results := [.tmp 4]
 body := .seq (.reg [
  oV 4 (.int .u64 0)] false)
  (.seq (.block 0 (.loop c243_0))
  (.seq (.reg [
  oM 13 0,
  oM 4 13] false)
  (.ret)))
theorem cfn243 : compFn Tryz.prog 243 = some fn243 := by kernel_rfl
def fn244 : AFn where
 ntmps := 9
 rs := 0
 results := [.tmp 2]
 body := .seq (.reg [
  oV 2 (.int .u64 0)] false)
  (.seq (.reg [
  oM 3 0,
  oC 4 231 [(.t 3), (kI 1)],
  o1 5 (.bin .mul (.t 4) (.c (.int .u64 4294967296))),
  oM 6 0,
  oC 7 231 [(.t 6), (kI 0)],
  oB 8 .add 5 7,
  oM 2 8] false)
  (.ret))
theorem cfn244 : compFn Tryz.prog 244 = some fn244 := by kernel_rfl
end Go.Va
end
section
open Go.Proofs
namespace Go.Va
def c245_0 : ACode := .seq (.seq (.reg [
  oM 72 13,
  oK 73 .geq 72 0] false)
  (.cond (.t 73)
  (.skip)
  (.exit 0)))
  (.seq (.block 1 (.seq (.reg [
  oM 76 11,
  oM 77 13,
  oM 78 13,
  oM 79 8,
  oB 80 .add 78 79,
  oK 81 .add 80 1,
  o1 82 (.slcS 1 (.t 76) (some (.t 77)) (some (.t 81)) none),
  oM 14 82] false)
  (.seq (.reg [
  oM 83 14,
  oM 84 10,
  oC 85 261 [.t 83, .t 84],
  oM 15 85] false)
  (.seq (.seq (.reg [
  oM 86 14,
  oM 87 10,
  oM 88 15,
  oC 89 262 [.t 86, .t 87, .t 88]] false)
  (.cond (.t 89)
  (.seq (.reg [
  oM 90 15,
  o1 91 (.bin .sub (.t 90) (.c (.int .u64 1))),
  oM 15 91] false)
  (.reg [
  oM 92 14,
  oM 93 10,
  oC 94 263 [.t 92, .t 93]] false))
  (.skip)))
  (.reg [
  oM 95 12,
  oM 96 13,
  oM 97 15,
  o1 98 (.conv .u32 (.t 97)),
  oI 99 1 95 96,
  oS 1 99 98] false)))))
  (.reg [
  oM 74 13,
  oK 75 .sub 74 1,
  oM 13 75] false))
def fn245 : AFn where
 ntmps := 110
 rs := 1
 results := [.tmp 4, .tmp 5]
 body := .seq (.reg [
  oV 4 kE,
  oV 5 kE] false)
  (.seq (.seq (.reg [
  oM 18 0,
  oM 19 1,
  oC 20 212 [.t 18, .t 19],
  oK 21 .lss 20 0] false)
  (.cond (.t 21)
  (.seq (.reg [
  oM 22 0,
  oV 4 kE,
  oM 5 22] false)
  (.ret))
  (.skip)))
  (.seq (.seq (.reg [
  oM 23 1,
  oN 24 23,
  oK 25 .eql 24 1] false)
  (.cond (.t 25)
  (.seq (.reg [
  oM 27 0,
  oM 28 1,
  o1 29 (.iadS 1 (.t 28) (kI 0)),
  oL 30 29,
  o1 31 (.conv .u64 (.t 30)),
  oC 32 260 [.t 27, .t 31],
  oM 26 32,
  oE 33 26 0,
  oE 34 26 1,
  oM 6 33,
  oM 7 34] false)
  (.seq (.reg [
  oM 35 6,
  oM 36 7,
  oC 37 180 [.t 36],
  oM 4 35,
  oM 5 37] false)
  (.ret)))
  (.skip)))
  (.seq (.reg [
  oM 38 1,
  oN 39 38,
  oM 8 39] false)
  (.seq (.reg [
  oM 40 1,
  oM 41 8,
  oK 42 .sub 41 1,
  oI 43 1 40 42,
  oL 44 43,
  o1 45 (.conv .u64 (.t 44)),
  o1 46 (.bin .add (.t 45) (.c (.int .u64 1))),
  o1 47 (.bin .quo (.c (.int .u64 4294967296)) (.t 46)),
  oM 9 47] false)
  (.seq (.reg [
  oM 48 1,
  oM 49 9,
  oC 50 180 [.t 49],
  oC 51 210 [.t 48, .t 50],
  oM 10 51] false)
  (.seq (.reg [
  oM 52 0,
  oN 53 52,
  oK 54 .add 53 1,
  o1 55 (.mksl 1 4 [(.int .u32 0)] (.t 54) (.t 54)),
  oM 11 55] false)
  (.seq (.reg [
  oM 56 11,
  oM 57 0,
  oM 58 9,
  oC 59 180 [.t 58],
  oC 60 210 [.t 57, .t 59],
  o1 61 (.cpy 1 (.t 56) (.t 60))] false)
  (.seq (.reg [
  oM 62 0,
  oN 63 62,
  oM 64 8,
  oB 65 .sub 63 64,
  oK 66 .add 65 1,
  o1 67 (.mksl 1 4 [(.int .u32 0)] (.t 66) (.t 66)),
  oM 12 67] false)
  (.seq (.seq (.reg [
  oM 68 0,
  oN 69 68,
  oM 70 8,
  oB 71 .sub 69 70,
  oM 13 71] false)
  (.block 0 (.loop c245_0)))
  (.seq (.reg [
  oM 101 11,
  oC 102 206 [.t 101],
  oM 103 9,
  oC 104 260 [.t 102, .t 103],
  oM 100 104,
  oE 105 100 0,
  oE 106 100 1,
  oM 16 105,
  oM 17 106] false)
  (.seq (.reg [
  oM 107 12,
  oC 108 206 [.t 107],
  oM 109 16,
  oM 4 108,
  oM 5 109] false)
  (.ret))))))))))))
theorem cfn245 : compFn Tryz.prog 245 = some fn245 := by kernel_rfl
def fn246 : AFn where
 ntmps := 6
 rs := 0
 results := [.tmp 2]
 body := .seq (.reg [
  oV 2 (.bool false)] false)
  (.seq (.reg [
  oM 3 0,
  oM 4 0,
  oB 5 .neq 3 4,
  oM 2 5] false)
  (.ret))
theorem cfn246 : compFn Tryz.prog 246 = some fn246 := by kernel_rfl
def fn247 : AFn where
 ntmps := 20
 rs := 0
 results := [.tmp 4]
 body := .seq (.reg [
  oV 4 (.int .i64 0)] false)
  (.seq (.reg [
  oM 7 0,
  oC 8 264 [.t 7],
  oM 5 8] false)
  (.seq (.reg [
  oM 9 1,
  oC 10 264 [.t 9],
  oM 6 10] false)
  (.seq (.seq (.reg [
  oM 11 5] false)
  (.cond (.t 11)
  (.seq (.seq (.reg [
  oM 12 6] false)
  (.cond (.t 12)
  (.seq (.reg [
  oV 4 (.int .i64 0)] false)
  (.ret))
  (.skip)))
  (.seq (.reg [
  oV 4 (.int .i64 (-1))] false)
  (.ret)))
  (.skip)))
  (.seq (.seq (.reg [
  oM 13 6] false)
  (.cond (.t 13)
  (.seq (.reg [
  oV 4 (.int .i64 1)] false)
  (.ret))
  (.skip)))
  (.seq (.seq (.reg [
  oM 14 0,
  oM 15 1,
  oB 16 .lss 14 15] false)
  (.cond (.t 16)
  (.seq (.reg [
  oV 4 (.int .i64 (-1))] false)
  (.ret))
  (.skip)))
  (.seq (.seq (.reg [
  oM 17 0,
  oM 18 1,
  oB 19 .gtr 17 18] false)
  (.cond (.t 19)
  (.seq (.reg [
  oV 4 (.int .i64 1)] false)
  (.ret))
  (.skip)))
  (.seq (.reg [
  oV 4 (.int .i64 0)] false)
  (.ret))))))))
theorem cfn247 : compFn Tryz.prog 247 = some fn247 := by kernel_rfl
def c248_0 : ACode := .seq (.reg [
  oB 27 .lss 26 25] false)
  (.seq (.cond (.t 27)
  (.skip)
  (.exit 2))
  (.seq (.block 3 (.seq (.reg [
  oM 28 26,
  oI 29 1 24 26,
  oL 30 29,
  oM 9 28,
  oM 10 30] false)
  (.seq (.reg [
  oM 31 8,
  oM 32 7,
  o1 33 (.conv .u64 (.t 32)),
  oM 34 10,
  o1 35 (.conv .u64 (.t 34)),
  oB 36 .mul 33 35,
  oM 37 5,
  oM 38 6,
  oM 39 9,
  oB 40 .add 38 39,
  oI 41 1 37 40,
  oL 42 41,
  o1 43 (.conv .u64 (.t 42)),
  oB 44 .add 36 43,
  oB 45 .add 31 44,
  oM 8 45] false)
  (.seq (.reg [
  oM 46 5,
  oM 47 6,
  oM 48 9,
  oB 49 .add 47 48,
  oM 50 8,
  o1 51 (.conv .u32 (.t 50)),
  oI 52 1 46 49,
  oS 1 52 51] false)
  (.reg [
  oM 53 8,
  o1 54 (.bin .shr (.t 53) (.c (.int .u64 32))),
  oM 8 54] false)))))
  (.reg [
  oK 55 .add 26 1,
  oM 26 55] false)))
def c248_1 : ACode := .seq (.reg [
  oB 20 .lss 19 18] false)
  (.seq (.cond (.t 20)
  (.skip)
  (.exit 0))
  (.seq (.block 1 (.seq (.reg [
  oM 21 19,
  oI 22 1 17 19,
  oL 23 22,
  oM 6 21,
  oM 7 23] false)
  (.seq (.reg [
  oV 8 (.int .u64 0)] false)
  (.seq (.seq (.reg [
  oM 24 1,
  oN 25 24,
  oV 26 (.int .i64 0)] false)
  (.block 2 (.loop c248_0)))
  (.reg [
  oM 56 5,
  oM 57 6,
  oM 58 1,
  oN 59 58,
  oB 60 .add 57 59,
  oM 61 8,
  o1 62 (.conv .u32 (.t 61)),
  oI 63 1 56 60,
  oS 1 63 62] false)))))
  (.reg [
  oK 64 .add 19 1,
  oM 19 64] false)))
def fn248 : AFn where
 ntmps := 67
 rs := 1
 results := [.tmp 4]
 body := .seq (.reg [
  oV 4 kE] false)
  (.seq (.reg [
  oM 11 0,
  oN 12 11,
  oM 13 1,
  oN 14 13,
  oB 15 .add 12 14,
  o1 16 (.mksl 1 4 [(.int .u32 0)] (.t 15) (.t 15)),
  oM 5 16] false)
  (.seq (.seq (.reg [
  oM 17 0,
  oN 18 17,
  oV 19 (.int .i64 0)] false)
  (.block 0 (.loop c248_1)))
  (.seq (.reg [
  oM 65 5,
  oC 66 254 [.t 65],
  oM 4 66] false)
  (.ret))))
theorem cfn248 : compFn Tryz.prog 248 = some fn248 := by kernel_rfl
def fn249 : AFn where
 ntmps := 31
 rs := 0
 results := [.cell 4 true 4]
 body := .seq (.reg [
  o1 2 (.box 2 (.t 0)),
  o1 3 (.box 2 (.t 1)),
  o1 4 (.alloc zRat)] false)
  (.seq (.reg [
  oA 6 2 2,
  oA 7 2 3,
  oC 8 223 [.t 6, .t 7],
  o1 5 (.alloc zInt),
  oS 2 5 8] false)
  (.seq (.seq (.reg [
  oA 9 2 3,
  oC 10 222 [.t 9],
  oK 11 .lss 10 0] false)
  (.cond (.t 11)
  (.reg [
  oA 12 2 5,
  oC 13 265 [.t 12],
  oS 2 5 13] false)
  (.skip)))
  (.seq (.reg [
  oA 15 2 2,
  oA 16 2 5,
  oC 17 266 [.t 15, .t 16],
  oM 14 17,
  oE 18 14 0,
  oE 19 14 1,
  oE 20 14 2,
  oS 2 2 18] false)
  (.seq (.reg [
  oA 22 2 3,
  oA 23 2 5,
  oC 24 266 [.t 22, .t 23],
  oM 21 24,
  oE 25 21 0,
  oE 26 21 1,
  oE 27 21 2,
  oS 2 3 25] false)
  (.seq (.reg [
  oA 28 2 2,
  oA 29 2 3,
  o1 30 (.build zRat [(0, 2, (.t 28)), (2, 2, (.t 29))]),
  oS 4 4 30] false)
  (.ret))))))
theorem cfn249 : compFn Tryz.prog 249 = some fn249 := by kernel_rfl
def fn250 : AFn where
 ntmps := 40
 rs := 0
 results := [.cell 4 true 2]
 body := .seq (.reg [
  o1 2 (.box 2 (.t 0)),
  o1 3 (.box 2 (.t 1)),
  o1 4 (.alloc zInt)] false)
  (.seq (.reg [
  oF 7 1 2,
  oL 8 7,
  oF 9 1 3,
  oL 10 9,
  oM 5 8,
  oM 6 10] true)
  (.seq (.block 0 (.seq (.reg [
  oF 12 0 2,
  oL 13 12,
  oF 14 0 3,
  oL 15 14,
  o1 16 (.eqb false (.t 13) (.t 15)),
  oM 11 16] false)
  (.cond (.t 11)
  (.seq (.reg [
  oM 17 5,
  oM 18 6,
  oC 19 267 [.t 17, .t 18],
  oF 20 0 2,
  ⟨(some 21), .ld false 1 (.t 20), none, [0]⟩,
  oC 22 240 [.t 19, .t 21],
  oS 2 4 22] true)
  (.ret))
  (.seq (.reg [
  oM 24 5,
  oM 25 6,
  oC 26 233 [.t 24, .t 25],
  oK 27 .lss 26 0,
  oM 23 27] false)
  (.cond (.t 23)
  (.seq (.reg [
  oM 28 6,
  oM 29 5,
  oC 30 268 [.t 28, .t 29],
  oF 31 0 3,
  ⟨(some 32), .ld false 1 (.t 31), none, [0]⟩,
  oC 33 240 [.t 30, .t 32],
  oS 2 4 33] true)
  (.ret))
  (.skip))))))
  (.seq (.reg [
  oM 34 5,
  oM 35 6,
  oC 36 268 [.t 34, .t 35],
  oF 37 0 2,
  ⟨(some 38), .ld false 1 (.t 37), none, [0]⟩,
  oC 39 240 [.t 36, .t 38],
  oS 2 4 39] true)
  (.ret))))
theorem cfn250 : compFn Tryz.prog 250 = some fn250 := by kernel_rfl
def c251_0 : ACode := .block 1 (.seq (.reg [
  oM 21 2,
  oM 22 1,
  oB 23 .sub 21 22,
  oM 12 23] false)
  (.seq (.seq (.reg [
  oM 24 12,
  oK 25 .leq 24 12] false)
  (.cond (.t 25)
  (.seq (.reg [
  oM 26 0,
  oM 27 1,
  oM 28 2,
  oM 29 4,
  oC 30 269 [.t 26, .t 27, .t 28, .t 29]] false)
  (.ret))
  (.skip)))
  (.seq (.seq (.reg [
  oM 31 3,
  oK 32 .eql 31 0] false)
  (.cond (.t 32)
  (.seq (.reg [
  oM 33 0,
  oM 34 1,
  oM 35 2,
  oM 36 4,
  oC 37 270 [.t 33, .t 34, .t 35, .t 36]] false)
  (.ret))
  (.skip)))
  (.seq (.seq (.reg [
  oM 38 10,
  o1 39 (.un .not (.t 38))] false)
  (.cond (.t 39)
  (.seq (.reg [
  oM 40 0,
  oM 41 1,
  oM 42 2,
  oM 43 4,
  oC 44 271 [.t 40, .t 41, .t 42, .t 43]] false)
  (.reg [
  oM 45 3,
  oK 46 .sub 45 1,
  oM 3 46] false))
  (.skip)))
  (.seq (.reg [
  oM 48 0,
  oM 49 1,
  oM 50 2,
  oM 51 4,
  oC 52 272 [.t 48, .t 49, .t 50, .t 51],
  oM 47 52,
  oE 53 47 0,
  oE 54 47 1,
  oM 13 53,
  oM 14 54] false)
  (.seq (.seq (.reg [
  oM 55 14,
  oK 56 .eql 55 2] false)
  (.cond (.t 56)
  (.seq (.reg [
  oM 57 0,
  oM 58 1,
  oM 59 2,
  oM 60 4,
  oC 61 273 [.t 57, .t 58, .t 59, .t 60]] false)
  (.seq (.reg [
  oM 62 2,
  oK 63 .sub 62 1,
  oM 64 13,
  oM 65 1,
  oB 66 .sub 64 65,
  oB 67 .sub 63 66,
  oM 13 67] false)
  (.reg [
  oV 14 (.int .i64 1)] false)))
  (.skip)))
  (.seq (.seq (.reg [
  oM 68 10,
  oM 69 68,
  gd 69 true (oM 70 11),
  o1 71 (.pick (.t 69) (.t 70) kF),
  oM 72 71,
  gd 72 true (oM 73 14),
  gd 72 true (oK 74 .eql 73 1),
  o1 75 (.pick (.t 72) (.t 74) kF)] false)
  (.cond (.t 75)
  (.seq (.reg [
  oM 76 0,
  oM 77 1,
  oM 78 2,
  oM 79 4,
  oC 80 274 [.t 76, .t 77, .t 78, .t 79]] false)
  (.cond (.t 80)
  (.ret)
  (.skip)))
  (.skip)))
  (.seq (.seq (.reg [
  oM 81 1,
  oK 82 .gtr 81 0,
  oM 83 82,
  gd 83 true (oM 84 4),
  gd 83 true (oM 85 0),
  gd 83 true (oM 86 1),
  gd 83 true (oK 87 .sub 86 1),
  gd 83 true (oI 88 12 85 87),
  gd 83 true (oA 89 12 88),
  gd 83 true (oM 90 0),
  gd 83 true (oM 91 13),
  gd 83 true (oI 92 12 90 91),
  gd 83 true (oA 93 12 92),
  gd 83 true (o1 94 (.call (.t 84) [.t 89, .t 93])),
  gd 83 true (oK 95 .lss 94 0),
  gd 83 true (o1 96 (.un .not (.t 95))),
  o1 97 (.pick (.t 83) (.t 96) kF)] true)
  (.cond (.t 97)
  (.seq (.reg [
  oM 98 0,
  oM 99 1,
  oM 100 2,
  oM 101 13,
  oM 102 4,
  oC 103 275 [.t 98, .t 99, .t 100, .t 101, .t 102],
  oM 15 103] false)
  (.seq (.reg [
  oM 104 15,
  oM 1 104] false)
  (.exit 1)))
  (.skip)))
  (.seq (.reg [
  oM 106 0,
  oM 107 1,
  oM 108 2,
  oM 109 13,
  oM 110 4,
  oC 111 276 [.t 106, .t 107, .t 108, .t 109, .t 110],
  oM 105 111,
  oE 112 105 0,
  oE 113 105 1,
  oM 16 112,
  oM 17 113] false)
  (.seq (.reg [
  oM 114 17,
  oM 11 114] false)
  (.seq (.reg [
  oM 115 16,
  oM 116 1,
  oB 117 .sub 115 116,
  oM 118 2,
  oM 119 16,
  oB 120 .sub 118 119,
  oM 18 117,
  oM 19 120] false)
  (.seq (.reg [
  oM 121 12,
  oK 122 .quo 121 8,
  oM 20 122] false)
  (.seq (.reg [
  oM 123 18,
  oM 124 19,
  oB 125 .lss 123 124] false)
  (.cond (.t 125)
  (.seq (.reg [
  oM 126 18,
  oM 127 20,
  oB 128 .geq 126 127,
  oM 10 128] false)
  (.seq (.reg [
  oM 129 0,
  oM 130 1,
  oM 131 16,
  oM 132 3,
  oM 133 4,
  oC 134 251 [.t 129, .t 130, .t 131, .t 132, .t 133]] false)
  (.reg [
  oM 135 16,
  oK 136 .add 135 1,
  oM 1 136] false)))
  (.seq (.reg [
  oM 137 19,
  oM 138 20,
  oB 139 .geq 137 138,
  oM 10 139] false)
  (.seq (.reg [
  oM 140 0,
  oM 141 16,
  oK 142 .add 141 1,
  oM 143 2,
  oM 144 3,
  oM 145 4,
  oC 146 251 [.t 140, .t 142, .t 143, .t 144, .t 145]] false)
  (.reg [
  oM 147 16,
  oM 2 147] false)))))))))))))))))
def fn251 : AFn where
 ntmps := 148
 rs := 0
 results := []
 body := .seq (.reg [
  oV 10 (.bool true)] false)
  (.seq (.reg [
  oV 11 (.bool true)] false)
  (.block 0 (.loop c251_0)))
theorem cfn251 : compFn Tryz.prog 251 = some fn251 := by kernel_rfl
def fn252 : AFn where
 ntmps := 8
 rs := 0
 results := [.tmp 2]
 body := .seq (.reg [
  oV 2 (.int .i64 0)] false)
  (.seq (.cond kF
  (.seq (.reg [
  oM 3 0,
  o1 4 (.conv .u32 (.t 3)),
  oC 5 277 [.t 4],
  oM 2 5] false)
  (.ret))
  (.skip))
  (.seq (.reg [
  oM 6 0,
  oC 7 278 [.t 6],
  oM 2 7] false)
  (.ret)))
theorem cfn252 : compFn Tryz.prog 252 = some fn252 := by kernel_rfl
def c253_0 : ACode := .seq (.reg [
  oB 16 .lss 15 14] false)
  (.seq (.cond (.t 16)
  (.skip)
  (.exit 0))
  (.seq (.block 1 (.seq (.reg [
  oM 17 15,
  oM 8 17] false)
  (.seq (.reg [
  oM 18 0,
  oN 19 18,
  oK 20 .sub 19 1,
  oM 21 8,
  oB 22 .sub 20 21,
  oM 9 22] false)
  (.reg [
  oM 24 6,
  oM 25 9,
  oM 26 7,
  oM 27 0,
  oM 28 9,
  oI 29 1 27 28,
  oL 30 29,
  oM 31 1,
  oC 32 279 [.t 26, .t 30, .t 31],
  oM 23 32,
  oE 33 23 0,
  oE 34 23 1,
  oI 35 1 24 25,
  oS 1 35 33,
  oM 7 34] false))))
  (.reg [
  oK 36 .add 15 1,
  oM 15 36] false)))
def fn253 : AFn where
 ntmps := 40
 rs := 1
 results := [.tmp 4, .tmp 5]
 body := .seq (.reg [
  oV 4 kE,
  oV 5 (.int .u32 0)] false)
  (.seq (.reg [
  oM 10 0,
  oN 11 10,
  o1 12 (.mksl 1 4 [(.int .u32 0)] (.t 11) (.t 11)),
  oM 6 12] false)
  (.seq (.reg [
  oV 7 (.int .u32 0)] false)
  (.seq (.seq (.reg [
  oM 13 0,
  oN 14 13,
  oV 15 (.int .i64 0)] false)
  (.block 0 (.loop c253_0)))
  (.seq (.reg [
  oM 37 6,
  oC 38 254 [.t 37],
  oM 39 7,
  oM 4 38,
  oM 5 39] false)
  (.ret)))))
theorem cfn253 : compFn Tryz.prog 253 = some fn253 := by kernel_rfl
def c254_0 : ACode := .seq (.seq (.reg [
  oM 6 3,
  oK 7 .gtr 6 0,
  oM 8 7,
  gd 8 true (oM 9 0),
  gd 8 true (oM 10 3),
  gd 8 true (oK 11 .sub 10 1),
  gd 8 true (oI 12 1 9 11),
  gd 8 true (oL 13 12),
  gd 8 true (o1 14 (.bin .eql (.t 13) (.c (.int .u32 0)))),
  o1 15 (.pick (.t 8) (.t 14) kF)] false)
  (.cond (.t 15)
  (.skip)
  (.exit 0)))
  (.block 1 (.reg [
  oM 16 3,
  oK 17 .sub 16 1,
  oM 3 17] false))
def fn254 : AFn where
 ntmps := 22
 rs := 1
 results := [.tmp 2]
 body := .seq (.reg [
  oV 2 kE] false)
  (.seq (.reg [
  oM 4 0,
  oN 5 4,
  oM 3 5] false)
  (.seq (.block 0 (.loop c254_0))
  (.seq (.reg [
  oM 18 0,
  oM 19 3,
  oM 20 3,
  o1 21 (.slcS 1 (.t 18) none (some (.t 19)) (some (.t 20))),
  oM 2 21] false)
  (.ret))))
theorem cfn254 : compFn Tryz.prog 254 = some fn254 := by kernel_rfl
def fn255 : AFn where
 ntmps := 6
 rs := 0
 results := [.tmp 2]
 body := .seq (.reg [
  oV 2 (.int .i64 0)] false)
  (.seq (.reg [
  oM 3 0,
  oC 4 277 [.t 3],
  o1 5 (.bin .sub (kI 32) (.t 4)),
  oM 2 5] false)
  (.ret))
theorem cfn255 : compFn Tryz.prog 255 = some fn255 := by kernel_rfl
def c256_0 : ACode := .seq (.reg [
  oB 16 .lss 15 14] false)
  (.seq (.cond (.t 16)
  (.skip)
  (.exit 0))
  (.seq (.block 1 (.seq (.reg [
  oM 17 15,
  oI 18 1 13 15,
  oL 19 18,
  oM 6 17,
  oM 7 19] false)
  (.seq (.reg [
  oM 20 7,
  o1 21 (.conv .u64 (.t 20)),
  oM 22 1,
  oB 23 .shl 21 22,
  oM 8 23] false)
  (.seq (.reg [
  oM 24 5,
  oM 25 6,
  oI 26 1 24 25,
  oL 27 26,
  oM 28 8,
  o1 29 (.conv .u32 (.t 28)),
  oB 30 .or 27 29,
  oI 31 1 24 25,
  oS 1 31 30] false)
  (.reg [
  oM 32 5,
  oM 33 6,
  oK 34 .add 33 1,
  oM 35 8,
  o1 36 (.bin .shr (.t 35) (.c (.int .u64 32))),
  o1 37 (.conv .u32 (.t 36)),
  oI 38 1 32 34,
  oS 1 38 37] false)))))
  (.reg [
  oK 39 .add 15 1,
  oM 15 39] false)))
def fn256 : AFn where
 ntmps := 41
 rs := 1
 results := [.tmp 4]
 body := .seq (.reg [
  oV 4 kE] false)
  (.seq (.reg [
  oM 9 0,
  oN 10 9,
  oK 11 .add 10 1,
  o1 12 (.mksl 1 4 [(.int .u32 0)] (.t 11) (.t 11)),
  oM 5 12] false)
  (.seq (.seq (.reg [
  oM 13 0,
  oN 14 13,
  oV 15 (.int .i64 0)] false)
  (.block 0 (.loop c256_0)))
  (.seq (.reg [
  oM 40 5,
  oM 4 40] false)
  (.ret))))
theorem cfn256 : compFn Tryz.prog 256 = some fn256 := by kernel_rfl
def c257_0 : ACode := .seq (.seq (.reg [
  oM 49 9,
  o1 50 (.bin .leq (.t 49) (.c (.int .u64 4294967295))),
  oM 51 50,
  gd 51 true (oM 52 6),
  gd 51 true (oM 53 1),
  gd 51 true (oM 54 5),
  gd 51 true (oK 55 .sub 54 2),
  gd 51 true (oI 56 1 53 55),
  gd 51 true (oL 57 56),
  gd 51 true (o1 58 (.conv .u64 (.t 57))),
  gd 51 true (oB 59 .mul 52 58),
  gd 51 true (oM 60 9),
  gd 51 true (o1 61 (.bin .shl (.t 60) (.c (.int .u64 32)))),
  gd 51 true (oM 62 0),
  gd 51 true (oM 63 5),
  gd 51 true (oK 64 .sub 63 2),
  gd 51 true (oI 65 1 62 64),
  gd 51 true (oL 66 65),
  gd 51 true (o1 67 (.conv .u64 (.t 66))),
  gd 51 true (oB 68 .or 61 67),
  gd 51 true (oB 69 .gtr 59 68),
  o1 70 (.pick (.t 51) (.t 69) kF)] true)
  (.cond (.t 70)
  (.skip)
  (.exit 0)))
  (.seq (.block 1 (.reg [
  oM 79 6,
  o1 80 (.bin .sub (.t 79) (.c (.int .u64 1))),
  oM 6 80] false))
  (.reg [
  oM 71 9,
  oM 72 1,
  oM 73 5,
  oK 74 .sub 73 1,
  oI 75 1 72 74,
  oL 76 75,
  o1 77 (.conv .u64 (.t 76)),
  oB 78 .add 71 77,
  oM 9 78] false))
def c257_1 : ACode := .seq (.reg [
  oB 84 .lss 83 82] false)
  (.seq (.cond (.t 84)
  (.skip)
  (.exit 2))
  (.seq (.block 3 (.seq (.reg [
  oM 85 83,
  oM 12 85] false)
  (.seq (.reg [
  oM 86 10,
  oM 87 6,
  oM 88 1,
  oM 89 12,
  oC 90 280 [.t 88, .t 89],
  o1 91 (.conv .u64 (.t 90)),
  oB 92 .mul 87 91,
  oB 93 .add 86 92,
  oM 10 93] false)
  (.seq (.reg [
  oM 95 0,
  oM 96 12,
  oM 97 0,
  oM 98 12,
  oI 99 1 97 98,
  oL 100 99,
  oM 101 10,
  o1 102 (.conv .u32 (.t 101)),
  oM 103 11,
  oC 104 281 [.t 100, .t 102, .t 103],
  oM 94 104,
  oE 105 94 0,
  oE 106 94 1,
  oI 107 1 95 96,
  oS 1 107 105,
  oM 11 106] false)
  (.reg [
  oM 108 10,
  o1 109 (.bin .shr (.t 108) (.c (.int .u64 32))),
  oM 10 109] false)))))
  (.reg [
  oK 110 .add 83 1,
  oM 83 110] false)))
def c257_2 : ACode := .seq (.reg [
  oB 118 .lss 117 116] false)
  (.seq (.cond (.t 118)
  (.skip)
  (.exit 6))
  (.seq (.block 7 (.seq (.reg [
  oM 119 117,
  oM 14 119] false)
  (.reg [
  oM 121 0,
  oM 122 14,
  oM 123 0,
  oM 124 14,
  oI 125 1 123 124,
  ⟨(some 126), .ld false 1 (.t 125), none, [9]⟩,
  oM 127 1,
  oM 128 14,
  oC 129 280 [.t 127, .t 128],
  oM 130 13,
  oC 131 282 [.t 126, .t 129, .t 130],
  oM 120 131,
  oE 132 120 0,
  oE 133 120 1,
  oI 134 1 121 122,
  oS 1 134 132,
  oM 13 133] true)))
  (.reg [
  oK 135 .add 117 1,
  oM 117 135] false)))
def c257_3 : ACode := .seq (.seq (.reg [
  oM 111 11,
  o1 112 (.bin .gtr (.t 111) (.c (.int .u32 0)))] false)
  (.cond (.t 112)
  (.skip)
  (.exit 4)))
  (.block 5 (.seq (.reg [
  oM 113 6,
  o1 114 (.bin .sub (.t 113) (.c (.int .u64 1))),
  oM 6 114] false)
  (.seq (.reg [
  oV 13 (.int .u32 0)] false)
  (.seq (.seq (.reg [
  oM 115 0,
  oN 116 115,
  oV 117 (.int .i64 0)] false)
  (.block 6 (.loop c257_2)))
  (.reg [
  oM 136 11,
  oM 137 13,
  oB 138 .sub 136 137,
  oM 11 138] false)))))
def fn257 : AFn where
 ntmps := 141
 rs := 0
 results := [.tmp 4]
 body := .seq (.reg [
  oV 4 (.int .u32 0)] false)
  (.seq (.reg [
  oM 15 1,
  oN 16 15,
  oM 5 16] false)
  (.seq (.reg [
  oV 6 (.int .u64 4294967295)] false)
  (.seq (.seq (.reg [
  oM 17 0,
  oM 18 5,
  oI 19 1 17 18,
  oL 20 19,
  oM 21 1,
  oM 22 5,
  oK 23 .sub 22 1,
  oI 24 1 21 23,
  oL 25 24,
  oB 26 .lss 20 25] true)
  (.cond (.t 26)
  (.seq (.reg [
  oM 28 0,
  oM 29 5,
  oI 30 1 28 29,
  oL 31 30,
  oM 32 0,
  oM 33 5,
  oK 34 .sub 33 1,
  oI 35 1 32 34,
  oL 36 35,
  oM 37 1,
  oM 38 5,
  oK 39 .sub 38 1,
  oI 40 1 37 39,
  oL 41 40,
  oC 42 279 [.t 31, .t 36, .t 41],
  oM 27 42,
  oE 43 27 0,
  oE 44 27 1,
  oM 7 43,
  oM 8 44] true)
  (.seq (.reg [
  oM 45 8,
  o1 46 (.conv .u64 (.t 45)),
  oM 9 46] false)
  (.seq (.reg [
  oM 47 7,
  o1 48 (.conv .u64 (.t 47)),
  oM 6 48] false)
  (.block 0 (.loop c257_0)))))
  (.skip)))
  (.seq (.reg [
  oV 10 (.int .u64 0)] false)
  (.seq (.reg [
  oV 11 (.int .u32 0)] false)
  (.seq (.seq (.reg [
  oM 81 0,
  oN 82 81,
  oV 83 (.int .i64 0)] false)
  (.block 2 (.loop c257_1)))
  (.seq (.block 4 (.loop c257_3))
  (.seq (.reg [
  oM 139 6,
  o1 140 (.conv .u32 (.t 139)),
  oM 4 140] false)
  (.ret)))))))))
theorem cfn257 : compFn Tryz.prog 257 = some fn257 := by kernel_rfl
def c258_0 : ACode := .seq (.reg [
  oB 13 .lss 12 11] false)
  (.seq (.cond (.t 13)
  (.skip)
  (.exit 0))
  (.seq (.block 1 (.seq (.reg [
  oM 14 12,
  oM 6 14] false)
  (.reg [
  oM 15 5,
  oM 16 6,
  oM 17 0,
  oM 18 6,
  oK 19 .add 18 1,
  oC 20 280 [.t 17, .t 19],
  o1 21 (.conv .u64 (.t 20)),
  o1 22 (.bin .shl (.t 21) (.c (.int .u64 32))),
  oM 23 0,
  oM 24 6,
  oI 25 1 23 24,
  ⟨(some 26), .ld false 1 (.t 25), none, [0]⟩,
  o1 27 (.conv .u64 (.t 26)),
  oB 28 .or 22 27,
  oM 29 1,
  oB 30 .shr 28 29,
  o1 31 (.conv .u32 (.t 30)),
  oI 32 1 15 16,
  oS 1 32 31] true)))
  (.reg [
  oK 33 .add 12 1,
  oM 12 33] false)))
def fn258 : AFn where
 ntmps := 36
 rs := 1
 results := [.tmp 4]
 body := .seq (.reg [
  oV 4 kE] false)
  (.seq (.reg [
  oM 7 0,
  oN 8 7,
  o1 9 (.mksl 1 4 [(.int .u32 0)] (.t 8) (.t 8)),
  oM 5 9] false)
  (.seq (.seq (.reg [
  oM 10 0,
  oN 11 10,
  oV 12 (.int .i64 0)] false)
  (.block 0 (.loop c258_0)))
  (.seq (.reg [
  oM 34 5,
  oC 35 254 [.t 34],
  oM 4 35] false)
  (.ret))))
theorem cfn258 : compFn Tryz.prog 258 = some fn258 := by kernel_rfl
def fn259 : AFn where
 ntmps := 8
 rs := 1
 results := [.tmp 2]
 body := .seq (.reg [
  oV 2 kE] false)
  (.seq (.seq (.reg [
  oM 3 0,
  o1 4 (.isnil false (.t 3))] false)
  (.cond (.t 4)
  (.seq (.reg [
  oV 2 kE] false)
  (.ret))
  (.skip)))
  (.seq (.reg [
  o1 5 (.bsl 1 0 [(.int .u32 0)] []),
  oM 6 0,
  o1 7 (.app 1 4 (.t 5) (.t 6)),
  oM 2 7] false)
  (.ret)))
theorem cfn259 : compFn Tryz.prog 259 = some fn259 := by kernel_rfl
def c260_0 : ACode := .seq (.seq (.reg [
  oM 16 8,
  oK 17 .geq 16 0] false)
  (.cond (.t 17)
  (.skip)
  (.exit 0)))
  (.seq (.block 1 (.seq (.reg [
  oM 20 7,
  o1 21 (.bin .mul (.t 20) (.c (.int .u64 4294967296))),
  oM 22 0,
  oM 23 8,
  oI 24 1 22 23,
  oL 25 24,
  o1 26 (.conv .u64 (.t 25)),
  oB 27 .add 21 26,
  oM 9 27] false)
  (.seq (.reg [
  oM 28 6,
  oM 29 8,
  oM 30 9,
  oM 31 1,
  oB 32 .quo 30 31,
  o1 33 (.conv .u32 (.t 32)),
  oI 34 1 28 29,
  oS 1 34 33] false)
  (.reg [
  oM 35 9,
  oM 36 1,
  oB 37 .rem 35 36,
  oM 7 37] false))))
  (.reg [
  oM 18 8,
  oK 19 .sub 18 1,
  oM 8 19] false))
def fn260 : AFn where
 ntmps := 41
 rs := 1
 results := [.tmp 4, .tmp 5]
 body := .seq (.reg [
  oV 4 kE,
  oV 5 (.int .u64 0)] false)
  (.seq (.reg [
  oM 10 0,
  oN 11 10,
  o1 12 (.mksl 1 4 [(.int .u32 0)] (.t 11) (.t 11)),
  oM 6 12] false)
  (.seq (.reg [
  oV 7 (.int .u64 0)] false)
  (.seq (.seq (.reg [
  oM 13 0,
  oN 14 13,
  oK 15 .sub 14 1,
  oM 8 15] false)
  (.block 0 (.loop c260_0)))
  (.seq (.reg [
  oM 38 6,
  oC 39 206 [.t 38],
  oM 40 7,
  oM 4 39,
  oM 5 40] false)
  (.ret)))))
theorem cfn260 : compFn Tryz.prog 260 = some fn260 := by kernel_rfl
def c261_0 : ACode := .seq (.seq (.reg [
  oM 40 7,
  o1 41 (.bin .geq (.t 40) (.c (.int .u64 4294967296))),
  oM 42 41,
  gd 42 false (oM 43 7),
  gd 42 false (oM 44 1),
  gd 42 false (oM 45 5),
  gd 42 false (oK 46 .sub 45 2),
  gd 42 false (oI 47 1 44 46),
  gd 42 false (oL 48 47),
  gd 42 false (o1 49 (.conv .u64 (.t 48))),
  gd 42 false (oB 50 .mul 43 49),
  gd 42 false (oM 51 8),
  gd 42 false (o1 52 (.bin .mul (.t 51) (.c (.int .u64 4294967296)))),
  gd 42 false (oM 53 0),
  gd 42 false (oM 54 5),
  gd 42 false (oK 55 .sub 54 2),
  gd 42 false (oI 56 1 53 55),
  gd 42 false (oL 57 56),
  gd 42 false (o1 58 (.conv .u64 (.t 57))),
  gd 42 false (oB 59 .add 52 58),
  gd 42 false (oB 60 .gtr 50 59),
  o1 61 (.pick (.t 42) kT (.t 60))] true)
  (.cond (.t 61)
  (.skip)
  (.exit 0)))
  (.block 1 (.seq (.reg [
  oM 62 7,
  o1 63 (.bin .sub (.t 62) (.c (.int .u64 1))),
  oM 7 63] false)
  (.seq (.reg [
  oM 64 8,
  oM 65 1,
  oM 66 5,
  oK 67 .sub 66 1,
  oI 68 1 65 67,
  oL 69 68,
  o1 70 (.conv .u64 (.t 69)),
  oB 71 .add 64 70,
  oM 8 71] false)
  (.seq (.reg [
  oM 72 8,
  o1 73 (.bin .geq (.t 72) (.c (.int .u64 4294967296)))] false)
  (.cond (.t 73)
  (.exit 0)
  (.skip))))))
def fn261 : AFn where
 ntmps := 75
 rs := 0
 results := [.tmp 4]
 body := .seq (.reg [
  oV 4 (.int .u64 0)] false)
  (.seq (.reg [
  oM 9 1,
  oN 10 9,
  oM 5 10] false)
  (.seq (.reg [
  oM 11 0,
  oM 12 5,
  oI 13 1 11 12,
  oL 14 13,
  o1 15 (.conv .u64 (.t 14)),
  o1 16 (.bin .mul (.t 15) (.c (.int .u64 4294967296))),
  oM 17 0,
  oM 18 5,
  oK 19 .sub 18 1,
  oI 20 1 17 19,
  oL 21 20,
  o1 22 (.conv .u64 (.t 21)),
  oB 23 .add 16 22,
  oM 6 23] true)
  (.seq (.reg [
  oM 24 6,
  oM 25 1,
  oM 26 5,
  oK 27 .sub 26 1,
  oI 28 1 25 27,
  oL 29 28,
  o1 30 (.conv .u64 (.t 29)),
  oB 31 .quo 24 30,
  oM 7 31] false)
  (.seq (.reg [
  oM 32 6,
  oM 33 1,
  oM 34 5,
  oK 35 .sub 34 1,
  oI 36 1 33 35,
  oL 37 36,
  o1 38 (.conv .u64 (.t 37)),
  oB 39 .rem 32 38,
  oM 8 39] false)
  (.seq (.block 0 (.loop c261_0))
  (.seq (.reg [
  oM 74 7,
  oM 4 74] false)
  (.ret)))))))
theorem cfn261 : compFn Tryz.prog 261 = some fn261 := by kernel_rfl
def c262_0 : ACode := .seq (.seq (.reg [
  oM 12 9,
  oM 13 0,
  oN 14 13,
  oB 15 .lss 12 14] false)
  (.cond (.t 15)
  (.skip)
  (.exit 0)))
  (.seq (.block 1 (.seq (.reg [
  oM 18 2,
  oM 19 1,
  oM 20 9,
  oC 21 231 [.t 19, .t 20],
  oB 22 .mul 18 21,
  oM 23 7,
  oB 24 .add 22 23,
  oM 10 24] false)
  (.seq (.reg [
  oM 25 10,
  o1 26 (.bin .quo (.t 25) (.c (.int .u64 4294967296))),
  oM 7 26] false)
  (.seq (.reg [
  oM 27 0,
  oM 28 9,
  oI 29 1 27 28,
  oL 30 29,
  o1 31 (.conv .u64 (.t 30)),
  o1 32 (.bin .add (.c (.int .u64 4294967296)) (.t 31)),
  oM 33 10,
  o1 34 (.bin .rem (.t 33) (.c (.int .u64 4294967296))),
  oB 35 .sub 32 34,
  oM 36 8,
  oB 37 .sub 35 36,
  oM 11 37] false)
  (.seq (.reg [
  oM 38 0,
  oM 39 9,
  oM 40 11,
  o1 41 (.bin .rem (.t 40) (.c (.int .u64 4294967296))),
  o1 42 (.conv .u32 (.t 41)),
  oI 43 1 38 39,
  oS 1 43 42] false)
  (.reg [
  oM 44 11,
  o1 45 (.bin .quo (.t 44) (.c (.int .u64 4294967296))),
  o1 46 (.bin .sub (.c (.int .u64 1)) (.t 45)),
  oM 8 46] false))))))
  (.reg [
  oM 16 9,
  oK 17 .add 16 1,
  oM 9 17] false))
def fn262 : AFn where
 ntmps := 49
 rs := 0
 results := [.tmp 6]
 body := .seq (.reg [
  oV 6 (.bool false)] false)
  (.seq (.reg [
  oV 7 (.int .u64 0)] false)
  (.seq (.reg [
  oV 8 (.int .u64 0)] false)
  (.seq (.seq (.reg [
  oV 9 (.int .i64 0)] false)
  (.block 0 (.loop c262_0)))
  (.seq (.reg [
  oM 47 8,
  o1 48 (.bin .eql (.t 47) (.c (.int .u64 1))),
  oM 6 48] false)
  (.ret)))))
theorem cfn262 : compFn Tryz.prog 262 = some fn262 := by kernel_rfl
def c263_0 : ACode := .seq (.seq (.reg [
  oM 7 5,
  oM 8 0,
  oN 9 8,
  oB 10 .lss 7 9] false)
  (.cond (.t 10)
  (.skip)
  (.exit 0)))
  (.seq (.block 1 (.seq (.reg [
  oM 13 0,
  oM 14 5,
  oI 15 1 13 14,
  ⟨(some 16), .ld false 1 (.t 15), none, [8]⟩,
  o1 17 (.conv .u64 (.t 16)),
  oM 18 1,
  oM 19 5,
  oC 20 231 [.t 18, .t 19],
  oB 21 .add 17 20,
  oM 22 4,
  oB 23 .add 21 22,
  oM 6 23] true)
  (.seq (.reg [
  oM 24 0,
  oM 25 5,
  oM 26 6,
  o1 27 (.bin .rem (.t 26) (.c (.int .u64 4294967296))),
  o1 28 (.conv .u32 (.t 27)),
  oI 29 1 24 25,
  oS 1 29 28] false)
  (.reg [
  oM 30 6,
  o1 31 (.bin .quo (.t 30) (.c (.int .u64 4294967296))),
  oM 4 31] false))))
  (.reg [
  oM 11 5,
  oK 12 .add 11 1,
  oM 5 12] false))
def fn263 : AFn where
 ntmps := 32
 rs := 0
 results := []
 body := .seq (.reg [
  oV 4 (.int .u64 0)] false)
  (.seq (.reg [
  oV 5 (.int .i64 0)] false)
  (.block 0 (.loop c263_0)))
theorem cfn263 : compFn Tryz.prog 263 = some fn263 := by kernel_rfl
def fn264 : AFn where
 ntmps := 6
 rs := 0
 results := [.tmp 2]
 body := .seq (.reg [
  oV 2 (.bool false)] false)
  (.seq (.reg [
  oM 3 0,
  oM 4 0,
  oB 5 .neq 3 4,
  oM 2 5] false)
  (.ret))
theorem cfn264 : compFn Tryz.prog 264 = some fn264 := by kernel_rfl
def fn265 : AFn where
 ntmps := 9
 rs := 0
 results := [.cell 2 true 2]
 body := .seq (.reg [
  o1 1 (.box 2 (.t 0)),
  o1 2 (.alloc zInt)] false)
  (.seq (.reg [
  oF 3 1 1,
  oL 4 3,
  oF 5 0 1,
  oL 6 5,
  o1 7 (.un .not (.t 6)),
  oC 8 240 [.t 4, .t 7],
  oS 2 2 8] false)
  (.ret))
theorem cfn265 : compFn Tryz.prog 265 = some fn265 := by kernel_rfl
def fn266 : AFn where
 ntmps := 46
 rs := 0
 results := [.cell 4 true 2, .cell 5 true 2, .tmp 6]
 body := .seq (.reg [
  o1 2 (.box 2 (.t 0)),
  o1 3 (.box 2 (.t 1)),
  o1 4 (.alloc zInt),
  o1 5 (.alloc zInt),
  oV 6 (.int .i64 0)] false)
  (.seq (.reg [
  oF 10 1 3,
  oL 11 10,
  oM 7 11] false)
  (.seq (.seq (.reg [
  oM 12 7,
  oN 13 12,
  oK 14 .eql 13 0] false)
  (.cond (.t 14)
  (.seq (.reg [
  o1 15 (.build zInt []),
  o1 16 (.build zInt []),
  oS 2 4 15,
  oS 2 5 16,
  oV 6 (.int .i64 10)] false)
  (.ret))
  (.skip)))
  (.seq (.reg [
  oF 18 1 2,
  oL 19 18,
  oM 20 7,
  oC 21 239 [.t 19, .t 20],
  oM 17 21,
  oE 22 17 0,
  oE 23 17 1,
  oM 8 22,
  oM 9 23] false)
  (.seq (.seq (.reg [
  oF 24 0 2,
  oL 25 24,
  oM 26 25,
  gd 26 true (oM 27 9),
  gd 26 true (oN 28 27),
  gd 26 true (oK 29 .gtr 28 0),
  o1 30 (.pick (.t 26) (.t 29) kF)] false)
  (.cond (.t 30)
  (.reg [
  oM 31 8,
  oC 32 241 [(.c (.int .u64 1))],
  oC 33 267 [.t 31, .t 32],
  oM 34 7,
  oM 35 9,
  oC 36 268 [.t 34, .t 35],
  oM 8 33,
  oM 9 36] false)
  (.skip)))
  (.seq (.reg [
  oM 37 8,
  oF 38 0 2,
  oL 39 38,
  oF 40 0 3,
  oL 41 40,
  o1 42 (.eqb true (.t 39) (.t 41)),
  oC 43 240 [.t 37, .t 42],
  oM 44 9,
  oC 45 240 [(.t 44), kF],
  oS 2 4 43,
  oS 2 5 45,
  oV 6 (.int .i64 0)] false)
  (.ret))))))
theorem cfn266 : compFn Tryz.prog 266 = some fn266 := by kernel_rfl
def c267_0 : ACode := .seq (.reg [
  oB 19 .lss 18 17] false)
  (.seq (.cond (.t 19)
  (.skip)
  (.exit 0))
  (.seq (.block 1 (.seq (.reg [
  oM 20 18,
  oM 8 20] false)
  (.reg [
  oM 22 6,
  oM 23 8,
  oM 24 0,
  oM 25 8,
  oC 26 280 [.t 24, .t 25],
  oM 27 1,
  oM 28 8,
  oC 29 280 [.t 27, .t 28],
  oM 30 7,
  oC 31 282 [.t 26, .t 29, .t 30],
  oM 21 31,
  oE 32 21 0,
  oE 33 21 1,
  oI 34 1 22 23,
  oS 1 34 32,
  oM 7 33] false)))
  (.reg [
  oK 35 .add 18 1,
  oM 18 35] false)))
def fn267 : AFn where
 ntmps := 42
 rs := 1
 results := [.tmp 4]
 body := .seq (.reg [
  oV 4 kE] false)
  (.seq (.reg [
  oM 9 0,
  oN 10 9,
  oM 11 1,
  oN 12 11,
  o1 13 (.maxi [.t 10, .t 12]),
  oM 5 13] false)
  (.seq (.reg [
  oM 14 5,
  oK 15 .add 14 1,
  o1 16 (.mksl 1 4 [(.int .u32 0)] (.t 15) (.t 15)),
  oM 6 16] false)
  (.seq (.reg [
  oV 7 (.int .u32 0)] false)
  (.seq (.seq (.reg [
  oM 17 5,
  oV 18 (.int .i64 0)] false)
  (.block 0 (.loop c267_0)))
  (.seq (.reg [
  oM 36 6,
  oM 37 5,
  oM 38 7,
  oI 39 1 36 37,
  oS 1 39 38] false)
  (.seq (.reg [
  oM 40 6,
  oC 41 254 [.t 40],
  oM 4 41] false)
  (.ret)))))))
theorem cfn267 : compFn Tryz.prog 267 = some fn267 := by kernel_rfl
def c268_0 : ACode := .seq (.reg [
  oB 14 .lss 13 12] false)
  (.seq (.cond (.t 14)
  (.skip)
  (.exit 0))
  (.seq (.block 1 (.seq (.reg [
  oM 15 13,
  oM 7 15] false)
  (.reg [
  oM 17 5,
  oM 18 7,
  oM 19 0,
  oM 20 7,
  oI 21 1 19 20,
  ⟨(some 22), .ld false 1 (.t 21), none, [9]⟩,
  oM 23 1,
  oM 24 7,
  oC 25 280 [.t 23, .t 24],
  oM 26 6,
  oC 27 281 [.t 22, .t 25, .t 26],
  oM 16 27,
  oE 28 16 0,
  oE 29 16 1,
  oI 30 1 17 18,
  oS 1 30 28,
  oM 6 29] true)))
  (.reg [
  oK 31 .add 13 1,
  oM 13 31] false)))
def fn268 : AFn where
 ntmps := 34
 rs := 1
 results := [.tmp 4]
 body := .seq (.reg [
  oV 4 kE] false)
  (.seq (.reg [
  oM 8 0,
  oN 9 8,
  o1 10 (.mksl 1 4 [(.int .u32 0)] (.t 9) (.t 9)),
  oM 5 10] false)
  (.seq (.reg [
  oV 6 (.int .u32 0)] false)
  (.seq (.seq (.reg [
  oM 11 5,
  oN 12 11,
  oV 13 (.int .i64 0)] false)
  (.block 0 (.loop c268_0)))
  (.seq (.reg [
  oM 32 5,
  oC 33 254 [.t 32],
  oM 4 33] false)
  (.ret)))))
theorem cfn268 : compFn Tryz.prog 268 = some fn268 := by kernel_rfl
def c269_0 : ACode := .seq (.seq (.reg [
  oM 18 9,
  oM 19 1,
  oB 20 .gtr 18 19,
  oM 21 20,
  gd 21 true (oM 22 3),
  gd 21 true (oM 23 0),
  gd 21 true (oM 24 9),
  gd 21 true (oI 25 12 23 24),
  gd 21 true (oA 26 12 25),
  gd 21 true (oM 27 0),
  gd 21 true (oM 28 9),
  gd 21 true (oK 29 .sub 28 1),
  gd 21 true (oI 30 12 27 29),
  gd 21 true (oA 31 12 30),
  gd 21 true (o1 32 (.call (.t 22) [.t 26, .t 31])),
  gd 21 true (oK 33 .lss 32 0),
  o1 34 (.pick (.t 21) (.t 33) kF)] true)
  (.cond (.t 34)
  (.skip)
  (.exit 2)))
  (.seq (.block 3 (.reg [
  oM 37 0,
  oM 38 9,
  oM 39 0,
  oM 40 9,
  oK 41 .sub 40 1,
  oM 42 0,
  oM 43 9,
  oK 44 .sub 43 1,
  oI 45 12 42 44,
  oA 46 12 45,
  oM 47 0,
  oM 48 9,
  oI 49 12 47 48,
  oA 50 12 49,
  oI 51 12 37 38,
  oS 12 51 46,
  oI 52 12 39 41,
  oS 12 52 50] true))
  (.reg [
  oM 35 9,
  oK 36 .sub 35 1,
  oM 9 36] false))
def c269_1 : ACode := .seq (.seq (.reg [
  oM 12 8,
  oM 13 2,
  oB 14 .lss 12 13] false)
  (.cond (.t 14)
  (.skip)
  (.exit 0)))
  (.seq (.block 1 (.seq (.reg [
  oM 17 8,
  oM 9 17] false)
  (.block 2 (.loop c269_0))))
  (.reg [
  oM 15 8,
  oK 16 .add 15 1,
  oM 8 16] false))
def fn269 : AFn where
 ntmps := 53
 rs := 0
 results := []
 body := .seq (.reg [
  oM 10 1,
  oK 11 .add 10 1,
  oM 8 11] false)
  (.block 0 (.loop c269_1))
theorem cfn269 : compFn Tryz.prog 269 = some fn269 := by kernel_rfl
def c270_0 : ACode := .seq (.seq (.reg [
  oM 20 11,
  oK 21 .geq 20 0] false)
  (.cond (.t 21)
  (.skip)
  (.exit 0)))
  (.seq (.block 1 (.reg [
  oM 24 0,
  oM 25 11,
  oM 26 10,
  oM 27 8,
  oM 28 3,
  oC 29 283 [.t 24, .t 25, .t 26, .t 27, .t 28]] false))
  (.reg [
  oM 22 11,
  oK 23 .sub 22 1,
  oM 11 23] false))
def c270_1 : ACode := .seq (.seq (.reg [
  oM 32 12,
  oK 33 .geq 32 0] false)
  (.cond (.t 33)
  (.skip)
  (.exit 2)))
  (.seq (.block 3 (.seq (.reg [
  oM 36 0,
  oM 37 8,
  oM 38 0,
  oM 39 8,
  oM 40 12,
  oB 41 .add 39 40,
  oM 42 0,
  oM 43 8,
  oM 44 12,
  oB 45 .add 43 44,
  oI 46 12 42 45,
  oA 47 12 46,
  oM 48 0,
  oM 49 8,
  oI 50 12 48 49,
  oA 51 12 50,
  oI 52 12 36 37,
  oS 12 52 47,
  oI 53 12 38 41,
  oS 12 53 51] true)
  (.reg [
  oM 54 0,
  oM 55 9,
  oM 56 12,
  oM 57 8,
  oM 58 3,
  oC 59 283 [.t 54, .t 55, .t 56, .t 57, .t 58]] false)))
  (.reg [
  oM 34 12,
  oK 35 .sub 34 1,
  oM 12 35] false))
def fn270 : AFn where
 ntmps := 60
 rs := 0
 results := []
 body := .seq (.reg [
  oM 13 1,
  oM 8 13] false)
  (.seq (.reg [
  oV 9 (.int .i64 0)] false)
  (.seq (.reg [
  oM 14 2,
  oM 15 1,
  oB 16 .sub 14 15,
  oM 10 16] false)
  (.seq (.seq (.reg [
  oM 17 10,
  oK 18 .sub 17 1,
  oK 19 .quo 18 2,
  oM 11 19] false)
  (.block 0 (.loop c270_0)))
  (.seq (.reg [
  oM 30 10,
  oK 31 .sub 30 1,
  oM 12 31] false)
  (.block 2 (.loop c270_1))))))
theorem cfn270 : compFn Tryz.prog 270 = some fn270 := by kernel_rfl
def c271_0 : ACode := .seq (.seq (.reg [
  oM 28 11,
  oM 29 1,
  oM 30 8,
  oK 31 .quo 30 4,
  oK 32 .mul 31 2,
  oB 33 .add 29 32,
  oK 34 .add 33 1,
  oB 35 .leq 28 34] false)
  (.cond (.t 35)
  (.skip)
  (.exit 0)))
  (.seq (.block 1 (.seq (.reg [
  oC 38 285 [.t 9],
  oM 39 10,
  o1 40 (.bin .sub (.t 39) (.c (.int .u64 1))),
  oB 41 .and 38 40,
  o1 42 (.conv .i64 (.t 41)),
  oM 12 42] false)
  (.seq (.seq (.reg [
  oM 43 12,
  oM 44 8,
  oB 45 .geq 43 44] false)
  (.cond (.t 45)
  (.reg [
  oM 46 12,
  oM 47 8,
  oB 48 .sub 46 47,
  oM 12 48] false)
  (.skip)))
  (.reg [
  oM 49 0,
  oM 50 11,
  oM 51 0,
  oM 52 1,
  oM 53 12,
  oB 54 .add 52 53,
  oM 55 0,
  oM 56 1,
  oM 57 12,
  oB 58 .add 56 57,
  oI 59 12 55 58,
  oA 60 12 59,
  oM 61 0,
  oM 62 11,
  oI 63 12 61 62,
  oA 64 12 63,
  oI 65 12 49 50,
  oS 12 65 60,
  oI 66 12 51 54,
  oS 12 66 64] true))))
  (.reg [
  oM 36 11,
  oK 37 .add 36 1,
  oM 11 37] false))
def fn271 : AFn where
 ntmps := 67
 rs := 0
 results := []
 body := .seq (.reg [
  oM 13 2,
  oM 14 1,
  oB 15 .sub 13 14,
  oM 8 15] false)
  (.seq (.reg [
  oM 16 8,
  oK 17 .geq 16 8] false)
  (.cond (.t 17)
  (.seq (.reg [
  oM 18 8,
  o1 19 (.conv .u64 (.t 18)),
  o1 9 (.alloc [(.int .u64 0)]),
  oS 1 9 19] false)
  (.seq (.reg [
  oM 20 8,
  oC 21 284 [.t 20],
  oM 10 21] false)
  (.seq (.reg [
  oM 22 1,
  oM 23 8,
  oK 24 .quo 23 4,
  oK 25 .mul 24 2,
  oB 26 .add 22 25,
  oK 27 .sub 26 1,
  oM 11 27] false)
  (.block 0 (.loop c271_0)))))
  (.skip)))
theorem cfn271 : compFn Tryz.prog 271 = some fn271 := by kernel_rfl
def fn272 : AFn where
 ntmps := 63
 rs := 0
 results := [.tmp 8, .tmp 9]
 body := .seq (.reg [
  oV 8 (.int .i64 0),
  oV 9 (.int .i64 0)] false)
  (.seq (.reg [
  oM 15 2,
  oM 16 1,
  oB 17 .sub 15 16,
  oM 10 17] false)
  (.seq (.reg [
  o1 11 (.alloc [(.int .i64 0)])] false)
  (.seq (.reg [
  oM 18 1,
  oM 19 10,
  oK 20 .quo 19 4,
  oK 21 .mul 20 1,
  oB 22 .add 18 21,
  oM 12 22] false)
  (.seq (.reg [
  oM 23 1,
  oM 24 10,
  oK 25 .quo 24 4,
  oK 26 .mul 25 2,
  oB 27 .add 23 26,
  oM 13 27] false)
  (.seq (.reg [
  oM 28 1,
  oM 29 10,
  oK 30 .quo 29 4,
  oK 31 .mul 30 3,
  oB 32 .add 28 31,
  oM 14 32] false)
  (.seq (.seq (.reg [
  oM 33 10,
  oK 34 .geq 33 8] false)
  (.cond (.t 34)
  (.seq (.seq (.reg [
  oM 35 10,
  oK 36 .geq 35 50] false)
  (.cond (.t 36)
  (.seq (.reg [
  oM 37 0,
  oM 38 12,
  oM 39 3,
  oC 40 286 [.t 37, .t 38, .t 11, .t 39],
  oM 12 40] false)
  (.seq (.reg [
  oM 41 0,
  oM 42 13,
  oM 43 3,
  oC 44 286 [.t 41, .t 42, .t 11, .t 43],
  oM 13 44] false)
  (.reg [
  oM 45 0,
  oM 46 14,
  oM 47 3,
  oC 48 286 [.t 45, .t 46, .t 11, .t 47],
  oM 14 48] false)))
  (.skip)))
  (.reg [
  oM 49 0,
  oM 50 12,
  oM 51 13,
  oM 52 14,
  oM 53 3,
  oC 54 287 [.t 49, .t 50, .t 51, .t 52, .t 11, .t 53],
  oM 13 54] false))
  (.skip)))
  (.seq (.reg [
  oL 55 11] false)
  (.block 0 (.seq (.reg [
  oK 58 .eql 55 0,
  oM 57 58] false)
  (.cond (.t 57)
  (.seq (.reg [
  oM 59 13,
  oM 8 59,
  oV 9 (.int .i64 1)] false)
  (.ret))
  (.seq (.reg [
  oK 61 .eql 55 12,
  oM 60 61] false)
  (.cond (.t 60)
  (.seq (.reg [
  oM 62 13,
  oM 8 62,
  oV 9 (.int .i64 2)] false)
  (.ret))
  (.seq (.reg [
  oM 56 13,
  oM 8 56,
  oV 9 (.int .i64 0)] false)
  (.ret))))))))))))))
theorem cfn272 : compFn Tryz.prog 272 = some fn272 := by kernel_rfl
def c273_0 : ACode := .seq (.seq (.reg [
  oM 13 8,
  oM 14 9,
  oB 15 .lss 13 14] false)
  (.cond (.t 15)
  (.skip)
  (.exit 0)))
  (.block 1 (.seq (.reg [
  oM 16 0,
  oM 17 8,
  oM 18 0,
  oM 19 9,
  oM 20 0,
  oM 21 9,
  oI 22 12 20 21,
  oA 23 12 22,
  oM 24 0,
  oM 25 8,
  oI 26 12 24 25,
  oA 27 12 26,
  oI 28 12 16 17,
  oS 12 28 23,
  oI 29 12 18 19,
  oS 12 29 27] true)
  (.seq (.reg [
  oM 30 8,
  oK 31 .add 30 1,
  oM 8 31] false)
  (.reg [
  oM 32 9,
  oK 33 .sub 32 1,
  oM 9 33] false))))
def fn273 : AFn where
 ntmps := 34
 rs := 0
 results := []
 body := .seq (.reg [
  oM 10 1,
  oM 8 10] false)
  (.seq (.reg [
  oM 11 2,
  oK 12 .sub 11 1,
  oM 9 12] false)
  (.block 0 (.loop c273_0)))
theorem cfn273 : compFn Tryz.prog 273 = some fn273 := by kernel_rfl
def c274_0 : ACode := .seq (.seq (.reg [
  oM 19 9,
  oM 20 2,
  oB 21 .lss 19 20,
  oM 22 21,
  gd 22 true (oM 23 3),
  gd 22 true (oM 24 0),
  gd 22 true (oM 25 9),
  gd 22 true (oI 26 12 24 25),
  gd 22 true (oA 27 12 26),
  gd 22 true (oM 28 0),
  gd 22 true (oM 29 9),
  gd 22 true (oK 30 .sub 29 1),
  gd 22 true (oI 31 12 28 30),
  gd 22 true (oA 32 12 31),
  gd 22 true (o1 33 (.call (.t 23) [.t 27, .t 32])),
  gd 22 true (oK 34 .lss 33 0),
  gd 22 true (o1 35 (.un .not (.t 34))),
  o1 36 (.pick (.t 22) (.t 35) kF)] true)
  (.cond (.t 36)
  (.skip)
  (.exit 2)))
  (.block 3 (.reg [
  oM 37 9,
  oK 38 .add 37 1,
  oM 9 38] false))
def c274_1 : ACode := .seq (.seq (.reg [
  oM 68 11,
  oK 69 .geq 68 1] false)
  (.cond (.t 69)
  (.skip)
  (.exit 4)))
  (.seq (.block 5 (.seq (.seq (.reg [
  oM 72 3,
  oM 73 0,
  oM 74 11,
  oI 75 12 73 74,
  oA 76 12 75,
  oM 77 0,
  oM 78 11,
  oK 79 .sub 78 1,
  oI 80 12 77 79,
  oA 81 12 80,
  o1 82 (.call (.t 72) [.t 76, .t 81]),
  oK 83 .lss 82 0,
  o1 84 (.un .not (.t 83))] true)
  (.cond (.t 84)
  (.exit 4)
  (.skip)))
  (.reg [
  oM 85 0,
  oM 86 11,
  oM 87 0,
  oM 88 11,
  oK 89 .sub 88 1,
  oM 90 0,
  oM 91 11,
  oK 92 .sub 91 1,
  oI 93 12 90 92,
  oA 94 12 93,
  oM 95 0,
  oM 96 11,
  oI 97 12 95 96,
  oA 98 12 97,
  oI 99 12 85 86,
  oS 12 99 94,
  oI 100 12 87 89,
  oS 12 100 98] true)))
  (.reg [
  oM 70 11,
  oK 71 .sub 70 1,
  oM 11 71] false))
def c274_2 : ACode := .seq (.seq (.reg [
  oM 107 12,
  oM 108 2,
  oB 109 .lss 107 108] false)
  (.cond (.t 109)
  (.skip)
  (.exit 6)))
  (.seq (.block 7 (.seq (.seq (.reg [
  oM 112 3,
  oM 113 0,
  oM 114 12,
  oI 115 12 113 114,
  oA 116 12 115,
  oM 117 0,
  oM 118 12,
  oK 119 .sub 118 1,
  oI 120 12 117 119,
  oA 121 12 120,
  o1 122 (.call (.t 112) [.t 116, .t 121]),
  oK 123 .lss 122 0,
  o1 124 (.un .not (.t 123))] true)
  (.cond (.t 124)
  (.exit 6)
  (.skip)))
  (.reg [
  oM 125 0,
  oM 126 12,
  oM 127 0,
  oM 128 12,
  oK 129 .sub 128 1,
  oM 130 0,
  oM 131 12,
  oK 132 .sub 131 1,
  oI 133 12 130 132,
  oA 134 12 133,
  oM 135 0,
  oM 136 12,
  oI 137 12 135 136,
  oA 138 12 137,
  oI 139 12 125 126,
  oS 12 139 134,
  oI 140 12 127 129,
  oS 12 140 138] true)))
  (.reg [
  oM 110 12,
  oK 111 .add 110 1,
  oM 12 111] false))
def c274_3 : ACode := .seq (.seq (.reg [
  oM 15 10,
  oK 16 .lss 15 5] false)
  (.cond (.t 16)
  (.skip)
  (.exit 0)))
  (.seq (.block 1 (.seq (.block 2 (.loop c274_0))
  (.seq (.seq (.reg [
  oM 39 9,
  oM 40 2,
  oB 41 .eql 39 40] false)
  (.cond (.t 41)
  (.seq (.reg [
  oV 8 (.bool true)] false)
  (.ret))
  (.skip)))
  (.seq (.seq (.reg [
  oM 42 2,
  oM 43 1,
  oB 44 .sub 42 43,
  oK 45 .lss 44 50] false)
  (.cond (.t 45)
  (.seq (.reg [
  oV 8 (.bool false)] false)
  (.ret))
  (.skip)))
  (.seq (.reg [
  oM 46 0,
  oM 47 9,
  oM 48 0,
  oM 49 9,
  oK 50 .sub 49 1,
  oM 51 0,
  oM 52 9,
  oK 53 .sub 52 1,
  oI 54 12 51 53,
  oA 55 12 54,
  oM 56 0,
  oM 57 9,
  oI 58 12 56 57,
  oA 59 12 58,
  oI 60 12 46 47,
  oS 12 60 55,
  oI 61 12 48 50,
  oS 12 61 59] true)
  (.seq (.seq (.reg [
  oM 62 9,
  oM 63 1,
  oB 64 .sub 62 63,
  oK 65 .geq 64 2] false)
  (.cond (.t 65)
  (.seq (.reg [
  oM 66 9,
  oK 67 .sub 66 1,
  oM 11 67] false)
  (.block 4 (.loop c274_1)))
  (.skip)))
  (.seq (.reg [
  oM 101 2,
  oM 102 9,
  oB 103 .sub 101 102,
  oK 104 .geq 103 2] false)
  (.cond (.t 104)
  (.seq (.reg [
  oM 105 9,
  oK 106 .add 105 1,
  oM 12 106] false)
  (.block 6 (.loop c274_2)))
  (.skip)))))))))
  (.reg [
  oM 17 10,
  oK 18 .add 17 1,
  oM 10 18] false))
def fn274 : AFn where
 ntmps := 141
 rs := 0
 results := [.tmp 8]
 body := .seq (.reg [
  oV 8 (.bool false)] false)
  (.seq (.reg [
  oM 13 1,
  oK 14 .add 13 1,
  oM 9 14] false)
  (.seq (.seq (.reg [
  oV 10 (.int .i64 0)] false)
  (.block 0 (.loop c274_3)))
  (.seq (.reg [
  oV 8 (.bool false)] false)
  (.ret))))
theorem cfn274 : compFn Tryz.prog 274 = some fn274 := by kernel_rfl
def c275_0 : ACode := .seq (.seq (.reg [
  oM 31 11,
  oM 32 12,
  oB 33 .leq 31 32,
  oM 34 33,
  gd 34 true (oM 35 4),
  gd 34 true (oM 36 0),
  gd 34 true (oM 37 1),
  gd 34 true (oI 38 12 36 37),
  gd 34 true (oA 39 12 38),
  gd 34 true (oM 40 0),
  gd 34 true (oM 41 11),
  gd 34 true (oI 42 12 40 41),
  gd 34 true (oA 43 12 42),
  gd 34 true (o1 44 (.call (.t 35) [.t 39, .t 43])),
  gd 34 true (oK 45 .lss 44 0),
  gd 34 true (o1 46 (.un .not (.t 45))),
  o1 47 (.pick (.t 34) (.t 46) kF)] true)
  (.cond (.t 47)
  (.skip)
  (.exit 2)))
  (.block 3 (.reg [
  oM 48 11,
  oK 49 .add 48 1,
  oM 11 49] false))
def c275_1 : ACode := .seq (.seq (.reg [
  oM 50 11,
  oM 51 12,
  oB 52 .leq 50 51,
  oM 53 52,
  gd 53 true (oM 54 4),
  gd 53 true (oM 55 0),
  gd 53 true (oM 56 1),
  gd 53 true (oI 57 12 55 56),
  gd 53 true (oA 58 12 57),
  gd 53 true (oM 59 0),
  gd 53 true (oM 60 12),
  gd 53 true (oI 61 12 59 60),
  gd 53 true (oA 62 12 61),
  gd 53 true (o1 63 (.call (.t 54) [.t 58, .t 62])),
  gd 53 true (oK 64 .lss 63 0),
  o1 65 (.pick (.t 53) (.t 64) kF)] true)
  (.cond (.t 65)
  (.skip)
  (.exit 4)))
  (.block 5 (.reg [
  oM 66 12,
  oK 67 .sub 66 1,
  oM 12 67] false))
def c275_2 : ACode := .block 1 (.seq (.block 2 (.loop c275_0))
  (.seq (.block 4 (.loop c275_1))
  (.seq (.seq (.reg [
  oM 68 11,
  oM 69 12,
  oB 70 .gtr 68 69] false)
  (.cond (.t 70)
  (.exit 0)
  (.skip)))
  (.seq (.reg [
  oM 71 0,
  oM 72 11,
  oM 73 0,
  oM 74 12,
  oM 75 0,
  oM 76 12,
  oI 77 12 75 76,
  oA 78 12 77,
  oM 79 0,
  oM 80 11,
  oI 81 12 79 80,
  oA 82 12 81,
  oI 83 12 71 72,
  oS 12 83 78,
  oI 84 12 73 74,
  oS 12 84 82] true)
  (.seq (.reg [
  oM 85 11,
  oK 86 .add 85 1,
  oM 11 86] false)
  (.reg [
  oM 87 12,
  oK 88 .sub 87 1,
  oM 12 88] false))))))
def fn275 : AFn where
 ntmps := 90
 rs := 0
 results := [.tmp 10]
 body := .seq (.reg [
  oV 10 (.int .i64 0)] false)
  (.seq (.reg [
  oM 13 0,
  oM 14 1,
  oM 15 0,
  oM 16 3,
  oM 17 0,
  oM 18 3,
  oI 19 12 17 18,
  oA 20 12 19,
  oM 21 0,
  oM 22 1,
  oI 23 12 21 22,
  oA 24 12 23,
  oI 25 12 13 14,
  oS 12 25 20,
  oI 26 12 15 16,
  oS 12 26 24] true)
  (.seq (.reg [
  oM 27 1,
  oK 28 .add 27 1,
  oM 29 2,
  oK 30 .sub 29 1,
  oM 11 28,
  oM 12 30] false)
  (.seq (.block 0 (.loop c275_2))
  (.seq (.reg [
  oM 89 11,
  oM 10 89] false)
  (.ret)))))
theorem cfn275 : compFn Tryz.prog 275 = some fn275 := by kernel_rfl
def c276_0 : ACode := .seq (.seq (.reg [
  oM 32 12,
  oM 33 13,
  oB 34 .leq 32 33,
  oM 35 34,
  gd 35 true (oM 36 4),
  gd 35 true (oM 37 0),
  gd 35 true (oM 38 12),
  gd 35 true (oI 39 12 37 38),
  gd 35 true (oA 40 12 39),
  gd 35 true (oM 41 0),
  gd 35 true (oM 42 1),
  gd 35 true (oI 43 12 41 42),
  gd 35 true (oA 44 12 43),
  gd 35 true (o1 45 (.call (.t 36) [.t 40, .t 44])),
  gd 35 true (oK 46 .lss 45 0),
  o1 47 (.pick (.t 35) (.t 46) kF)] true)
  (.cond (.t 47)
  (.skip)
  (.exit 0)))
  (.block 1 (.reg [
  oM 48 12,
  oK 49 .add 48 1,
  oM 12 49] false))
def c276_1 : ACode := .seq (.seq (.reg [
  oM 50 12,
  oM 51 13,
  oB 52 .leq 50 51,
  oM 53 52,
  gd 53 true (oM 54 4),
  gd 53 true (oM 55 0),
  gd 53 true (oM 56 13),
  gd 53 true (oI 57 12 55 56),
  gd 53 true (oA 58 12 57),
  gd 53 true (oM 59 0),
  gd 53 true (oM 60 1),
  gd 53 true (oI 61 12 59 60),
  gd 53 true (oA 62 12 61),
  gd 53 true (o1 63 (.call (.t 54) [.t 58, .t 62])),
  gd 53 true (oK 64 .lss 63 0),
  gd 53 true (o1 65 (.un .not (.t 64))),
  o1 66 (.pick (.t 53) (.t 65) kF)] true)
  (.cond (.t 66)
  (.skip)
  (.exit 2)))
  (.block 3 (.reg [
  oM 67 13,
  oK 68 .sub 67 1,
  oM 13 68] false))
def c276_2 : ACode := .seq (.seq (.reg [
  oM 105 12,
  oM 106 13,
  oB 107 .leq 105 106,
  oM 108 107,
  gd 108 true (oM 109 4),
  gd 108 true (oM 110 0),
  gd 108 true (oM 111 12),
  gd 108 true (oI 112 12 110 111),
  gd 108 true (oA 113 12 112),
  gd 108 true (oM 114 0),
  gd 108 true (oM 115 1),
  gd 108 true (oI 116 12 114 115),
  gd 108 true (oA 117 12 116),
  gd 108 true (o1 118 (.call (.t 109) [.t 113, .t 117])),
  gd 108 true (oK 119 .lss 118 0),
  o1 120 (.pick (.t 108) (.t 119) kF)] true)
  (.cond (.t 120)
  (.skip)
  (.exit 6)))
  (.block 7 (.reg [
  oM 121 12,
  oK 122 .add 121 1,
  oM 12 122] false))
def c276_3 : ACode := .seq (.seq (.reg [
  oM 123 12,
  oM 124 13,
  oB 125 .leq 123 124,
  oM 126 125,
  gd 126 true (oM 127 4),
  gd 126 true (oM 128 0),
  gd 126 true (oM 129 13),
  gd 126 true (oI 130 12 128 129),
  gd 126 true (oA 131 12 130),
  gd 126 true (oM 132 0),
  gd 126 true (oM 133 1),
  gd 126 true (oI 134 12 132 133),
  gd 126 true (oA 135 12 134),
  gd 126 true (o1 136 (.call (.t 127) [.t 131, .t 135])),
  gd 126 true (oK 137 .lss 136 0),
  gd 126 true (o1 138 (.un .not (.t 137))),
  o1 139 (.pick (.t 126) (.t 138) kF)] true)
  (.cond (.t 139)
  (.skip)
  (.exit 8)))
  (.block 9 (.reg [
  oM 140 13,
  oK 141 .sub 140 1,
  oM 13 141] false))
def c276_4 : ACode := .block 5 (.seq (.block 6 (.loop c276_2))
  (.seq (.block 8 (.loop c276_3))
  (.seq (.seq (.reg [
  oM 142 12,
  oM 143 13,
  oB 144 .gtr 142 143] false)
  (.cond (.t 144)
  (.exit 4)
  (.skip)))
  (.seq (.reg [
  oM 145 0,
  oM 146 12,
  oM 147 0,
  oM 148 13,
  oM 149 0,
  oM 150 13,
  oI 151 12 149 150,
  oA 152 12 151,
  oM 153 0,
  oM 154 12,
  oI 155 12 153 154,
  oA 156 12 155,
  oI 157 12 145 146,
  oS 12 157 152,
  oI 158 12 147 148,
  oS 12 158 156] true)
  (.seq (.reg [
  oM 159 12,
  oK 160 .add 159 1,
  oM 12 160] false)
  (.reg [
  oM 161 13,
  oK 162 .sub 161 1,
  oM 13 162] false))))))
def fn276 : AFn where
 ntmps := 178
 rs := 0
 results := [.tmp 10, .tmp 11]
 body := .seq (.reg [
  oV 10 (.int .i64 0),
  oV 11 (.bool false)] false)
  (.seq (.reg [
  oM 14 0,
  oM 15 1,
  oM 16 0,
  oM 17 3,
  oM 18 0,
  oM 19 3,
  oI 20 12 18 19,
  oA 21 12 20,
  oM 22 0,
  oM 23 1,
  oI 24 12 22 23,
  oA 25 12 24,
  oI 26 12 14 15,
  oS 12 26 21,
  oI 27 12 16 17,
  oS 12 27 25] true)
  (.seq (.reg [
  oM 28 1,
  oK 29 .add 28 1,
  oM 30 2,
  oK 31 .sub 30 1,
  oM 12 29,
  oM 13 31] false)
  (.seq (.block 0 (.loop c276_0))
  (.seq (.block 2 (.loop c276_1))
  (.seq (.seq (.reg [
  oM 69 12,
  oM 70 13,
  oB 71 .gtr 69 70] false)
  (.cond (.t 71)
  (.seq (.reg [
  oM 72 0,
  oM 73 13,
  oM 74 0,
  oM 75 1,
  oM 76 0,
  oM 77 1,
  oI 78 12 76 77,
  oA 79 12 78,
  oM 80 0,
  oM 81 13,
  oI 82 12 80 81,
  oA 83 12 82,
  oI 84 12 72 73,
  oS 12 84 79,
  oI 85 12 74 75,
  oS 12 85 83] true)
  (.seq (.reg [
  oM 86 13,
  oM 10 86,
  oV 11 (.bool true)] false)
  (.ret)))
  (.skip)))
  (.seq (.reg [
  oM 87 0,
  oM 88 12,
  oM 89 0,
  oM 90 13,
  oM 91 0,
  oM 92 13,
  oI 93 12 91 92,
  oA 94 12 93,
  oM 95 0,
  oM 96 12,
  oI 97 12 95 96,
  oA 98 12 97,
  oI 99 12 87 88,
  oS 12 99 94,
  oI 100 12 89 90,
  oS 12 100 98] true)
  (.seq (.reg [
  oM 101 12,
  oK 102 .add 101 1,
  oM 12 102] false)
  (.seq (.reg [
  oM 103 13,
  oK 104 .sub 103 1,
  oM 13 104] false)
  (.seq (.block 4 (.loop c276_4))
  (.seq (.reg [
  oM 163 0,
  oM 164 13,
  oM 165 0,
  oM 166 1,
  oM 167 0,
  oM 168 1,
  oI 169 12 167 168,
  oA 170 12 169,
  oM 171 0,
  oM 172 13,
  oI 173 12 171 172,
  oA 174 12 173,
  oI 175 12 163 164,
  oS 12 175 170,
  oI 176 12 165 166,
  oS 12 176 174] true)
  (.seq (.reg [
  oM 177 13,
  oM 10 177,
  oV 11 (.bool false)] false)
  (.ret))))))))))))
theorem cfn276 : compFn Tryz.prog 276 = some fn276 := by kernel_rfl
end Go.Va
end
section
open Go.Proofs
namespace Go.Va
def fn277 : AFn where
 ntmps := 19
 rs := 0
 results := [.tmp 2]
 body := .seq (.reg [
  oV 2 (.int .i64 0)] false)
  (.seq (.seq (.reg [
  oM 3 0,
  o1 4 (.bin .geq (.t 3) (.c (.int .u32 65536)))] false)
  (.cond (.t 4)
  (.seq (.reg [
  oM 5 0,
  o1 6 (.bin .shr (.t 5) (.c (.int .u64 16))),
  oM 0 6] false)
  (.reg [
  oV 2 (.int .i64 16)] false))
  (.skip)))
  (.seq (.seq (.reg [
  oM 7 0,
  o1 8 (.bin .geq (.t 7) (.c (.int .u32 256)))] false)
  (.cond (.t 8)
  (.seq (.reg [
  oM 9 0,
  o1 10 (.bin .shr (.t 9) (.c (.int .u64 8))),
  oM 0 10] false)
  (.reg [
  oM 11 2,
  oK 12 .add 11 8,
  oM 2 12] false))
  (.skip)))
  (.seq (.reg [
  oM 13 2,
  oM 14 0,
  o1 15 (.conv .u8 (.t 14)),
  ⟨(some 16), .idxT (.c (.str ⟨#[0, 1, 2, 2, 3, 3, 3, 3, 4, 4, 4, 4, 4, 4, 4, 4, 5, 5, 5, 5, 5, 5, 5, 5, 5, 5, 5, 5, 5, 5, 5, 5, 6, 6, 6, 6, 6, 6, 6, 6, 6, 6, 6, 6, 6, 6, 6, 6, 6, 6, 6, 6, 6, 6, 6, 6, 6, 6, 6, 6, 6, 6, 6, 6, 7, 7, 7, 7, 7, 7, 7, 7, 7, 7, 7, 7, 7, 7, 7, 7, 7, 7, 7, 7, 7, 7, 7, 7, 7, 7, 7, 7, 7, 7, 7, 7, 7, 7, 7, 7, 7, 7, 7, 7, 7, 7, 7, 7, 7, 7, 7, 7, 7, 7, 7, 7, 7, 7, 7, 7, 7, 7, 7, 7, 7, 7, 7, 7, 8, 8, 8, 8, 8, 8, 8, 8, 8, 8, 8, 8, 8, 8, 8, 8, 8, 8, 8, 8, 8, 8, 8, 8, 8, 8, 8, 8, 8, 8, 8, 8, 8, 8, 8, 8, 8, 8, 8, 8, 8, 8, 8, 8, 8, 8, 8, 8, 8, 8, 8, 8, 8, 8, 8, 8, 8, 8, 8, 8, 8, 8, 8, 8, 8, 8, 8, 8, 8, 8, 8, 8, 8, 8, 8, 8, 8, 8, 8, 8, 8, 8, 8, 8, 8, 8, 8, 8, 8, 8, 8, 8, 8, 8, 8, 8, 8, 8, 8, 8, 8, 8, 8, 8, 8, 8, 8, 8, 8, 8, 8, 8, 8, 8, 8, 8, 8, 8, 8, 8, 8, 8, 8, 8, 8, 8, 8, 8]⟩)) (.t 15), none, []⟩,
  o1 17 (.conv .i64 (.t 16)),
  oB 18 .add 13 17,
  oM 2 18] false)
  (.ret))))
theorem cfn277 : compFn Tryz.prog 277 = some fn277 := by kernel_rfl
def fn278 : AFn where
 ntmps := 25
 rs := 0
 results := [.tmp 2]
 body := .seq (.reg [
  oV 2 (.int .i64 0)] false)
  (.seq (.seq (.reg [
  oM 3 0,
  o1 4 (.bin .geq (.t 3) (.c (.int .u64 4294967296)))] false)
  (.cond (.t 4)
  (.seq (.reg [
  oM 5 0,
  o1 6 (.bin .shr (.t 5) (.c (.int .u64 32))),
  oM 0 6] false)
  (.reg [
  oV 2 (.int .i64 32)] false))
  (.skip)))
  (.seq (.seq (.reg [
  oM 7 0,
  o1 8 (.bin .geq (.t 7) (.c (.int .u64 65536)))] false)
  (.cond (.t 8)
  (.seq (.reg [
  oM 9 0,
  o1 10 (.bin .shr (.t 9) (.c (.int .u64 16))),
  oM 0 10] false)
  (.reg [
  oM 11 2,
  oK 12 .add 11 16,
  oM 2 12] false))
  (.skip)))
  (.seq (.seq (.reg [
  oM 13 0,
  o1 14 (.bin .geq (.t 13) (.c (.int .u64 256)))] false)
  (.cond (.t 14)
  (.seq (.reg [
  oM 15 0,
  o1 16 (.bin .shr (.t 15) (.c (.int .u64 8))),
  oM 0 16] false)
  (.reg [
  oM 17 2,
  oK 18 .add 17 8,
  oM 2 18] false))
  (.skip)))
  (.seq (.reg [
  oM 19 2,
  oM 20 0,
  o1 21 (.conv .u8 (.t 20)),
  ⟨(some 22), .idxT (.c (.str ⟨#[0, 1, 2, 2, 3, 3, 3, 3, 4, 4, 4, 4, 4, 4, 4, 4, 5, 5, 5, 5, 5, 5, 5, 5, 5, 5, 5, 5, 5, 5, 5, 5, 6, 6, 6, 6, 6, 6, 6, 6, 6, 6, 6, 6, 6, 6, 6, 6, 6, 6, 6, 6, 6, 6, 6, 6, 6, 6, 6, 6, 6, 6, 6, 6, 7, 7, 7, 7, 7, 7, 7, 7, 7, 7, 7, 7, 7, 7, 7, 7, 7, 7, 7, 7, 7, 7, 7, 7, 7, 7, 7, 7, 7, 7, 7, 7, 7, 7, 7, 7, 7, 7, 7, 7, 7, 7, 7, 7, 7, 7, 7, 7, 7, 7, 7, 7, 7, 7, 7, 7, 7, 7, 7, 7, 7, 7, 7, 7, 8, 8, 8, 8, 8, 8, 8, 8, 8, 8, 8, 8, 8, 8, 8, 8, 8, 8, 8, 8, 8, 8, 8, 8, 8, 8, 8, 8, 8, 8, 8, 8, 8, 8, 8, 8, 8, 8, 8, 8, 8, 8, 8, 8, 8, 8, 8, 8, 8, 8, 8, 8, 8, 8, 8, 8, 8, 8, 8, 8, 8, 8, 8, 8, 8, 8, 8, 8, 8, 8, 8, 8, 8, 8, 8, 8, 8, 8, 8, 8, 8, 8, 8, 8, 8, 8, 8, 8, 8, 8, 8, 8, 8, 8, 8, 8, 8, 8, 8, 8, 8, 8, 8, 8, 8, 8, 8, 8, 8, 8, 8, 8, 8, 8, 8, 8, 8, 8, 8, 8, 8, 8, 8, 8, 8, 8, 8, 8]⟩)) (.t 21), none, []⟩,
  o1 23 (.conv .i64 (.t 22)),
  oB 24 .add 19 23,
  oM 2 24] false)
  (.ret)))))
theorem cfn278 : compFn Tryz.prog 278 = some fn278 := by kernel_rfl
def fn279 : AFn where
 ntmps := 33
 rs := 0
 results := [.tmp 6, .tmp 7]
 body := .seq (.reg [
  oV 6 (.int .u32 0),
  oV 7 (.int .u32 0)] false)
  (.seq (.seq (.reg [
  oM 9 2,
  o1 10 (.bin .neq (.t 9) (.c (.int .u32 0))),
  oM 11 10,
  gd 11 true (oM 12 2),
  gd 11 true (oM 13 0),
  gd 11 true (oB 14 .leq 12 13),
  o1 15 (.pick (.t 11) (.t 14) kF)] false)
  (.cond (.t 15)
  (.bad)
  (.skip)))
  (.seq (.reg [
  oM 17 0,
  o1 18 (.conv .u64 (.t 17)),
  o1 19 (.bin .shl (.t 18) (.c (.int .u64 32))),
  oM 20 1,
  o1 21 (.conv .u64 (.t 20)),
  oB 22 .or 19 21,
  oM 8 22] false)
  (.seq (.reg [
  oM 23 8,
  oM 24 2,
  o1 25 (.conv .u64 (.t 24)),
  oB 26 .quo 23 25,
  o1 27 (.conv .u32 (.t 26)),
  oM 28 8,
  oM 29 2,
  o1 30 (.conv .u64 (.t 29)),
  oB 31 .rem 28 30,
  o1 32 (.conv .u32 (.t 31)),
  oM 6 27,
  oM 7 32] true)
  (.ret))))
theorem cfn279 : compFn Tryz.prog 279 = some fn279 := by kernel_rfl
def fn280 : AFn where
 ntmps := 13
 rs := 0
 results := [.tmp 4]
 body := .seq (.reg [
  oV 4 (.int .u32 0)] false)
  (.seq (.seq (.reg [
  oM 5 1,
  oM 6 0,
  oN 7 6,
  oB 8 .lss 5 7] false)
  (.cond (.t 8)
  (.seq (.reg [
  oM 9 0,
  oM 10 1,
  oI 11 1 9 10,
  oL 12 11,
  oM 4 12] false)
  (.ret))
  (.skip)))
  (.seq (.reg [
  oV 4 (.int .u32 0)] false)
  (.ret)))
theorem cfn280 : compFn Tryz.prog 280 = some fn280 := by kernel_rfl
def fn281 : AFn where
 ntmps := 25
 rs := 0
 results := [.tmp 6, .tmp 7]
 body := .seq (.reg [
  oV 6 (.int .u32 0),
  oV 7 (.int .u32 0)] false)
  (.seq (.reg [
  oM 8 0,
  oM 9 1,
  oB 10 .sub 8 9,
  oM 11 2,
  oB 12 .sub 10 11,
  oM 6 12] false)
  (.seq (.reg [
  oM 13 0,
  o1 14 (.un .xor (.t 13)),
  oM 15 1,
  oB 16 .and 14 15,
  oM 17 0,
  oM 18 1,
  oB 19 .xor 17 18,
  o1 20 (.un .xor (.t 19)),
  oM 21 6,
  oB 22 .and 20 21,
  oB 23 .or 16 22,
  o1 24 (.bin .shr (.t 23) (.c (.int .u64 31))),
  oM 7 24] false)
  (.ret)))
theorem cfn281 : compFn Tryz.prog 281 = some fn281 := by kernel_rfl
def fn282 : AFn where
 ntmps := 22
 rs := 0
 results := [.tmp 6, .tmp 7]
 body := .seq (.reg [
  oV 6 (.int .u32 0),
  oV 7 (.int .u32 0)] false)
  (.seq (.reg [
  oM 9 0,
  o1 10 (.conv .u64 (.t 9)),
  oM 11 1,
  o1 12 (.conv .u64 (.t 11)),
  oB 13 .add 10 12,
  oM 14 2,
  o1 15 (.conv .u64 (.t 14)),
  oB 16 .add 13 15,
  oM 8 16] false)
  (.seq (.reg [
  oM 17 8,
  o1 18 (.conv .u32 (.t 17)),
  oM 6 18] false)
  (.seq (.reg [
  oM 19 8,
  o1 20 (.bin .shr (.t 19) (.c (.int .u64 32))),
  o1 21 (.conv .u32 (.t 20)),
  oM 7 21] false)
  (.ret))))
theorem cfn282 : compFn Tryz.prog 282 = some fn282 := by kernel_rfl
def c283_0 : ACode := .block 1 (.seq (.reg [
  oM 13 10,
  o1 14 (.bin .mul (kI 2) (.t 13)),
  oK 15 .add 14 1,
  oM 11 15] false)
  (.seq (.seq (.reg [
  oM 16 11,
  oM 17 2,
  oB 18 .geq 16 17] false)
  (.cond (.t 18)
  (.exit 0)
  (.skip)))
  (.seq (.seq (.reg [
  oM 19 11,
  oK 20 .add 19 1,
  oM 21 2,
  oB 22 .lss 20 21,
  oM 23 22,
  gd 23 true (oM 24 4),
  gd 23 true (oM 25 0),
  gd 23 true (oM 26 3),
  gd 23 true (oM 27 11),
  gd 23 true (oB 28 .add 26 27),
  gd 23 true (oI 29 12 25 28),
  gd 23 true (oA 30 12 29),
  gd 23 true (oM 31 0),
  gd 23 true (oM 32 3),
  gd 23 true (oM 33 11),
  gd 23 true (oB 34 .add 32 33),
  gd 23 true (oK 35 .add 34 1),
  gd 23 true (oI 36 12 31 35),
  gd 23 true (oA 37 12 36),
  gd 23 true (o1 38 (.call (.t 24) [.t 30, .t 37])),
  gd 23 true (oK 39 .lss 38 0),
  o1 40 (.pick (.t 23) (.t 39) kF)] true)
  (.cond (.t 40)
  (.reg [
  oM 41 11,
  oK 42 .add 41 1,
  oM 11 42] false)
  (.skip)))
  (.seq (.seq (.reg [
  oM 43 4,
  oM 44 0,
  oM 45 3,
  oM 46 10,
  oB 47 .add 45 46,
  oI 48 12 44 47,
  oA 49 12 48,
  oM 50 0,
  oM 51 3,
  oM 52 11,
  oB 53 .add 51 52,
  oI 54 12 50 53,
  oA 55 12 54,
  o1 56 (.call (.t 43) [.t 49, .t 55]),
  oK 57 .lss 56 0,
  o1 58 (.un .not (.t 57))] true)
  (.cond (.t 58)
  (.ret)
  (.skip)))
  (.seq (.reg [
  oM 59 0,
  oM 60 3,
  oM 61 10,
  oB 62 .add 60 61,
  oM 63 0,
  oM 64 3,
  oM 65 11,
  oB 66 .add 64 65,
  oM 67 0,
  oM 68 3,
  oM 69 11,
  oB 70 .add 68 69,
  oI 71 12 67 70,
  oA 72 12 71,
  oM 73 0,
  oM 74 3,
  oM 75 10,
  oB 76 .add 74 75,
  oI 77 12 73 76,
  oA 78 12 77,
  oI 79 12 59 62,
  oS 12 79 72,
  oI 80 12 63 66,
  oS 12 80 78] true)
  (.reg [
  oM 81 11,
  oM 10 81] false))))))
def fn283 : AFn where
 ntmps := 82
 rs := 0
 results := []
 body := .seq (.reg [
  oM 12 1,
  oM 10 12] false)
  (.block 0 (.loop c283_0))
theorem cfn283 : compFn Tryz.prog 283 = some fn283 := by kernel_rfl
def fn284 : AFn where
 ntmps := 7
 rs := 0
 results := [.tmp 2]
 body := .seq (.reg [
  oV 2 (.int .u64 0)] false)
  (.seq (.reg [
  oM 3 0,
  o1 4 (.conv .u64 (.t 3)),
  oC 5 252 [.t 4],
  o1 6 (.bin .shl (.c (.int .u64 1)) (.t 5)),
  oM 2 6] false)
  (.ret))
theorem cfn284 : compFn Tryz.prog 284 = some fn284 := by kernel_rfl
def fn285 : AFn where
 ntmps := 33
 rs := 0
 results := [.tmp 2]
 body := .seq (.reg [
  oV 2 (.int .u64 0)] false)
  (.seq (.reg [
  oM 3 0,
  o1 4 (.nilc (.t 3)),
  oL 5 4,
  oM 6 0,
  o1 7 (.nilc (.t 6)),
  oL 8 7,
  o1 9 (.bin .shl (.t 8) (.c (.int .u64 13))),
  oB 10 .xor 5 9,
  o1 11 (.nilc (.t 3)),
  oS 1 11 10] true)
  (.seq (.reg [
  oM 12 0,
  o1 13 (.nilc (.t 12)),
  oL 14 13,
  oM 15 0,
  o1 16 (.nilc (.t 15)),
  oL 17 16,
  o1 18 (.bin .shr (.t 17) (.c (.int .u64 7))),
  oB 19 .xor 14 18,
  o1 20 (.nilc (.t 12)),
  oS 1 20 19] true)
  (.seq (.reg [
  oM 21 0,
  o1 22 (.nilc (.t 21)),
  oL 23 22,
  oM 24 0,
  o1 25 (.nilc (.t 24)),
  oL 26 25,
  o1 27 (.bin .shl (.t 26) (.c (.int .u64 17))),
  oB 28 .xor 23 27,
  o1 29 (.nilc (.t 21)),
  oS 1 29 28] true)
  (.seq (.reg [
  oM 30 0,
  o1 31 (.nilc (.t 30)),
  oL 32 31,
  oM 2 32] false)
  (.ret)))))
theorem cfn285 : compFn Tryz.prog 285 = some fn285 := by kernel_rfl
def fn286 : AFn where
 ntmps := 18
 rs := 0
 results := [.tmp 8]
 body := .seq (.reg [
  oV 8 (.int .i64 0)] false)
  (.seq (.reg [
  oM 9 0,
  oM 10 1,
  oK 11 .sub 10 1,
  oM 12 1,
  oM 13 1,
  oK 14 .add 13 1,
  oM 15 2,
  oM 16 3,
  oC 17 287 [.t 9, .t 11, .t 12, .t 14, .t 15, .t 16],
  oM 8 17] false)
  (.ret))
theorem cfn286 : compFn Tryz.prog 286 = some fn286 := by kernel_rfl
def fn287 : AFn where
 ntmps := 41
 rs := 0
 results := [.tmp 12]
 body := .seq (.reg [
  oV 12 (.int .i64 0)] false)
  (.seq (.reg [
  oM 14 0,
  oM 15 1,
  oM 16 2,
  oM 17 4,
  oM 18 5,
  oC 19 288 [.t 14, .t 15, .t 16, .t 17, .t 18],
  oM 13 19,
  oE 20 13 0,
  oE 21 13 1,
  oM 1 20,
  oM 2 21] false)
  (.seq (.reg [
  oM 23 0,
  oM 24 2,
  oM 25 3,
  oM 26 4,
  oM 27 5,
  oC 28 288 [.t 23, .t 24, .t 25, .t 26, .t 27],
  oM 22 28,
  oE 29 22 0,
  oE 30 22 1,
  oM 2 29,
  oM 3 30] false)
  (.seq (.reg [
  oM 32 0,
  oM 33 1,
  oM 34 2,
  oM 35 4,
  oM 36 5,
  oC 37 288 [.t 32, .t 33, .t 34, .t 35, .t 36],
  oM 31 37,
  oE 38 31 0,
  oE 39 31 1,
  oM 1 38,
  oM 2 39] false)
  (.seq (.reg [
  oM 40 2,
  oM 12 40] false)
  (.ret)))))
theorem cfn287 : compFn Tryz.prog 287 = some fn287 := by kernel_rfl
def fn288 : AFn where
 ntmps := 32
 rs := 0
 results := [.tmp 10, .tmp 11]
 body := .seq (.reg [
  oV 10 (.int .i64 0),
  oV 11 (.int .i64 0)] false)
  (.seq (.seq (.reg [
  oM 12 4,
  oM 13 0,
  oM 14 2,
  oI 15 12 13 14,
  oA 16 12 15,
  oM 17 0,
  oM 18 1,
  oI 19 12 17 18,
  oA 20 12 19,
  o1 21 (.call (.t 12) [.t 16, .t 20]),
  oK 22 .lss 21 0] true)
  (.cond (.t 22)
  (.seq (.reg [
  oM 23 3,
  o1 24 (.nilc (.t 23)),
  oL 25 24,
  oK 26 .add 25 1,
  o1 27 (.nilc (.t 23)),
  oS 1 27 26] false)
  (.seq (.reg [
  oM 28 2,
  oM 29 1,
  oM 10 28,
  oM 11 29] false)
  (.ret)))
  (.skip)))
  (.seq (.reg [
  oM 30 1,
  oM 31 2,
  oM 10 30,
  oM 11 31] false)
  (.ret)))
theorem cfn288 : compFn Tryz.prog 288 = some fn288 := by kernel_rfl
end Go.Va
end
section
open Go.Proofs
namespace Go.Va

inductive Tab where
  | leaf (k : FuncId) (fn : AFn)
  | node (m : FuncId) (a b : Tab)
def Tab.look : Tab → FuncId → Option AFn
  | .leaf k fn, f => if Nat.beq k f then some fn else none
  | .node m a b, f => if Nat.ble m f then b.look f else a.look f
def AllOK (P : Program) : Tab → Prop
  | .leaf k fn => compFn P k = some fn
  | .node _ a b => AllOK P a ∧ AllOK P b
theorem look_ok {P : Program} : ∀ {l : Tab} {f : FuncId} {fn : AFn}, AllOK P l → l.look f = some fn → compFn P f = some fn
  | .leaf k fn', f, fn, ho, h => by
    unfold Tab.look at h
    split at h
    · rename_i hb
      have e : k = f := Nat.eq_of_beq_eq_true hb
      cases h; subst e; exact ho
    · cases h
  | .node m a b, f, fn, ho, h => by
    unfold Tab.look at h
    split at h
    · exact look_ok ho.2 h
    · exact look_ok ho.1 h
def tab : Tab := .node 166 (.node 103 (.node 60 (.node 25 (.node 17 (.node 7 (.node 4 (.leaf 3 fn3) (.node 5 (.leaf 4 fn4) (.leaf 5 fn5))) (.node 9 (.node 8 (.leaf 7 fn7) (.leaf 8 fn8)) (.node 16 (.leaf 9 fn9) (.leaf 16 fn16)))) (.node 21 (.node 19 (.node 18 (.leaf 17 fn17) (.leaf 18 fn18)) (.node 20 (.leaf 19 fn19) (.leaf 20 fn20))) (.node 23 (.node 22 (.leaf 21 fn21) (.leaf 22 fn22)) (.node 24 (.leaf 23 fn23) (.leaf 24 fn24))))) (.node 35 (.node 28 (.node 26 (.leaf 25 fn25) (.node 27 (.leaf 26 fn26) (.leaf 27 fn27))) (.node 33 (.node 29 (.leaf 28 fn28) (.leaf 29 fn29)) (.node 34 (.leaf 33 fn33) (.leaf 34 fn34)))) (.node 56 (.node 54 (.node 45 (.leaf 35 fn35) (.leaf 45 fn45)) (.node 55 (.leaf 54 fn54) (.leaf 55 fn55))) (.node 58 (.node 57 (.leaf 56 fn56) (.leaf 57 fn57)) (.node 59 (.leaf 58 fn58) (.leaf 59 fn59)))))) (.node 75 (.node 67 (.node 63 (.node 61 (.leaf 60 fn60) (.node 62 (.leaf 61 fn61) (.leaf 62 fn62))) (.node 65 (.node 64 (.leaf 63 fn63) (.leaf 64 fn64)) (.node 66 (.leaf 65 fn65) (.leaf 66 fn66)))) (.node 71 (.node 69 (.node 68 (.leaf 67 fn67) (.leaf 68 fn68)) (.node 70 (.leaf 69 fn69) (.leaf 70 fn70))) (.node 73 (.node 72 (.leaf 71 fn71) (.leaf 72 fn72)) (.node 74 (.leaf 73 fn73) (.leaf 74 fn74))))) (.node 83 (.node 78 (.node 76 (.leaf 75 fn75) (.node 77 (.leaf 76 fn76) (.leaf 77 fn77))) (.node 81 (.node 80 (.leaf 78 fn78) (.leaf 80 fn80)) (.node 82 (.leaf 81 fn81) (.leaf 82 fn82)))) (.node 96 (.node 85 (.node 84 (.leaf 83 fn83) (.leaf 84 fn84)) (.node 86 (.leaf 85 fn85) (.leaf 86 fn86))) (.node 99 (.node 97 (.leaf 96 fn96) (.leaf 97 fn97)) (.node 102 (.leaf 99 fn99) (.leaf 102 fn102))))))) (.node 133 (.node 118 (.node 110 (.node 106 (.node 104 (.leaf 103 fn103) (.node 105 (.leaf 104 fn104) (.leaf 105 fn105))) (.node 108 (.node 107 (.leaf 106 fn106) (.leaf 107 fn107)) (.node 109 (.leaf 108 fn108) (.leaf 109 fn109)))) (.node 114 (.node 112 (.node 111 (.leaf 110 fn110) (.leaf 111 fn111)) (.node 113 (.leaf 112 fn112) (.leaf 113 fn113))) (.node 116 (.node 115 (.leaf 114 fn114) (.leaf 115 fn115)) (.node 117 (.leaf 116 fn116) (.leaf 117 fn117))))) (.node 125 (.node 121 (.node 119 (.leaf 118 fn118) (.node 120 (.leaf 119 fn119) (.leaf 120 fn120))) (.node 123 (.node 122 (.leaf 121 fn121) (.leaf 122 fn122)) (.node 124 (.leaf 123 fn123) (.leaf 124 fn124)))) (.node 129 (.node 127 (.node 126 (.leaf 125 fn125) (.leaf 126 fn126)) (.node 128 (.leaf 127 fn127) (.leaf 128 fn128))) (.node 131 (.node 130 (.leaf 129 fn129) (.leaf 130 fn130)) (.node 132 (.leaf 131 fn131) (.leaf 132 fn132)))))) (.node 149 (.node 140 (.node 136 (.node 134 (.leaf 133 fn133) (.node 135 (.leaf 134 fn134) (.leaf 135 fn135))) (.node 138 (.node 137 (.leaf 136 fn136) (.leaf 137 fn137)) (.node 139 (.leaf 138 fn138) (.leaf 139 fn139)))) (.node 144 (.node 142 (.node 141 (.leaf 140 fn140) (.leaf 141 fn141)) (.node 143 (.leaf 142 fn142) (.leaf 143 fn143))) (.node 147 (.node 145 (.leaf 144 fn144) (.leaf 145 fn145)) (.node 148 (.leaf 147 fn147) (.leaf 148 fn148))))) (.node 158 (.node 153 (.node 150 (.leaf 149 fn149) (.node 152 (.leaf 150 fn150) (.leaf 152 fn152))) (.node 155 (.node 154 (.leaf 153 fn153) (.leaf 154 fn154)) (.node 156 (.leaf 155 fn155) (.leaf 156 fn156)))) (.node 162 (.node 160 (.node 159 (.leaf 158 fn158) (.leaf 159 fn159)) (.node 161 (.leaf 160 fn160) (.leaf 161 fn161))) (.node 164 (.node 163 (.leaf 162 fn162) (.leaf 163 fn163)) (.node 165 (.leaf 164 fn164) (.leaf 165 fn165)))))))) (.node 228 (.node 197 (.node 181 (.node 173 (.node 169 (.node 167 (.leaf 166 fn166) (.node 168 (.leaf 167 fn167) (.leaf 168 fn168))) (.node 171 (.node 170 (.leaf 169 fn169) (.leaf 170 fn170)) (.node 172 (.leaf 171 fn171) (.leaf 172 fn172)))) (.node 177 (.node 175 (.node 174 (.leaf 173 fn173) (.leaf 174 fn174)) (.node 176 (.leaf 175 fn175) (.leaf 176 fn176))) (.node 179 (.node 178 (.leaf 177 fn177) (.leaf 178 fn178)) (.node 180 (.leaf 179 fn179) (.leaf 180 fn180))))) (.node 188 (.node 184 (.node 182 (.leaf 181 fn181) (.node 183 (.leaf 182 fn182) (.leaf 183 fn183))) (.node 186 (.node 185 (.leaf 184 fn184) (.leaf 185 fn185)) (.node 187 (.leaf 186 fn186) (.leaf 187 fn187)))) (.node 193 (.node 190 (.node 189 (.leaf 188 fn188) (.leaf 189 fn189)) (.node 191 (.leaf 190 fn190) (.leaf 191 fn191))) (.node 195 (.node 194 (.leaf 193 fn193) (.leaf 194 fn194)) (.node 196 (.leaf 195 fn195) (.leaf 196 fn196)))))) (.node 213 (.node 205 (.node 201 (.node 198 (.leaf 197 fn197) (.node 199 (.leaf 198 fn198) (.leaf 199 fn199))) (.node 203 (.node 202 (.leaf 201 fn201) (.leaf 202 fn202)) (.node 204 (.leaf 203 fn203) (.leaf 204 fn204)))) (.node 209 (.node 207 (.node 206 (.leaf 205 fn205) (.leaf 206 fn206)) (.node 208 (.leaf 207 fn207) (.leaf 208 fn208))) (.node 211 (.node 210 (.leaf 209 fn209) (.leaf 210 fn210)) (.node 212 (.leaf 211 fn211) (.leaf 212 fn212))))) (.node 220 (.node 216 (.node 214 (.leaf 213 fn213) (.node 215 (.leaf 214 fn214) (.leaf 215 fn215))) (.node 218 (.node 217 (.leaf 216 fn216) (.leaf 217 fn217)) (.node 219 (.leaf 218 fn218) (.leaf 219 fn219)))) (.node 224 (.node 222 (.node 221 (.leaf 220 fn220) (.leaf 221 fn221)) (.node 223 (.leaf 222 fn222) (.leaf 223 fn223))) (.node 226 (.node 225 (.leaf 224 fn224) (.leaf 225 fn225)) (.node 227 (.leaf 226 fn226) (.leaf 227 fn227))))))) (.node 258 (.node 243 (.node 235 (.node 231 (.node 229 (.leaf 228 fn228) (.node 230 (.leaf 229 fn229) (.leaf 230 fn230))) (.node 233 (.node 232 (.leaf 231 fn231) (.leaf 232 fn232)) (.node 234 (.leaf 233 fn233) (.leaf 234 fn234)))) (.node 239 (.node 237 (.node 236 (.leaf 235 fn235) (.leaf 236 fn236)) (.node 238 (.leaf 237 fn237) (.leaf 238 fn238))) (.node 241 (.node 240 (.leaf 239 fn239) (.leaf 240 fn240)) (.node 242 (.leaf 241 fn241) (.leaf 242 fn242))))) (.node 250 (.node 246 (.node 244 (.leaf 243 fn243) (.node 245 (.leaf 244 fn244) (.leaf 245 fn245))) (.node 248 (.node 247 (.leaf 246 fn246) (.leaf 247 fn247)) (.node 249 (.leaf 248 fn248) (.leaf 249 fn249)))) (.node 254 (.node 252 (.node 251 (.leaf 250 fn250) (.leaf 251 fn251)) (.node 253 (.leaf 252 fn252) (.leaf 253 fn253))) (.node 256 (.node 255 (.leaf 254 fn254) (.leaf 255 fn255)) (.node 257 (.leaf 256 fn256) (.leaf 257 fn257)))))) (.node 273 (.node 265 (.node 261 (.node 259 (.leaf 258 fn258) (.node 260 (.leaf 259 fn259) (.leaf 260 fn260))) (.node 263 (.node 262 (.leaf 261 fn261) (.leaf 262 fn262)) (.node 264 (.leaf 263 fn263) (.leaf 264 fn264)))) (.node 269 (.node 267 (.node 266 (.leaf 265 fn265) (.leaf 266 fn266)) (.node 268 (.leaf 267 fn267) (.leaf 268 fn268))) (.node 271 (.node 270 (.leaf 269 fn269) (.leaf 270 fn270)) (.node 272 (.leaf 271 fn271) (.leaf 272 fn272))))) (.node 281 (.node 277 (.node 275 (.node 274 (.leaf 273 fn273) (.leaf 274 fn274)) (.node 276 (.leaf 275 fn275) (.leaf 276 fn276))) (.node 279 (.node 278 (.leaf 277 fn277) (.leaf 278 fn278)) (.node 280 (.leaf 279 fn279) (.leaf 280 fn280)))) (.node 285 (.node 283 (.node 282 (.leaf 281 fn281) (.leaf 282 fn282)) (.node 284 (.leaf 283 fn283) (.leaf 284 fn284))) (.node 287 (.node 286 (.leaf 285 fn285) (.leaf 286 fn286)) (.node 288 (.leaf 287 fn287) (.leaf 288 fn288))))))))
theorem tab_ok : AllOK Tryz.prog tab := ⟨⟨⟨⟨⟨⟨⟨cfn3, ⟨cfn4, cfn5⟩⟩, ⟨⟨cfn7, cfn8⟩, ⟨cfn9, cfn16⟩⟩⟩, ⟨⟨⟨cfn17, cfn18⟩, ⟨cfn19, cfn20⟩⟩, ⟨⟨cfn21, cfn22⟩, ⟨cfn23, cfn24⟩⟩⟩⟩, ⟨⟨⟨cfn25, ⟨cfn26, cfn27⟩⟩, ⟨⟨cfn28, cfn29⟩, ⟨cfn33, cfn34⟩⟩⟩, ⟨⟨⟨cfn35, cfn45⟩, ⟨cfn54, cfn55⟩⟩, ⟨⟨cfn56, cfn57⟩, ⟨cfn58, cfn59⟩⟩⟩⟩⟩, ⟨⟨⟨⟨cfn60, ⟨cfn61, cfn62⟩⟩, ⟨⟨cfn63, cfn64⟩, ⟨cfn65, cfn66⟩⟩⟩, ⟨⟨⟨cfn67, cfn68⟩, ⟨cfn69, cfn70⟩⟩, ⟨⟨cfn71, cfn72⟩, ⟨cfn73, cfn74⟩⟩⟩⟩, ⟨⟨⟨cfn75, ⟨cfn76, cfn77⟩⟩, ⟨⟨cfn78, cfn80⟩, ⟨cfn81, cfn82⟩⟩⟩, ⟨⟨⟨cfn83, cfn84⟩, ⟨cfn85, cfn86⟩⟩, ⟨⟨cfn96, cfn97⟩, ⟨cfn99, cfn102⟩⟩⟩⟩⟩⟩, ⟨⟨⟨⟨⟨cfn103, ⟨cfn104, cfn105⟩⟩, ⟨⟨cfn106, cfn107⟩, ⟨cfn108, cfn109⟩⟩⟩, ⟨⟨⟨cfn110, cfn111⟩, ⟨cfn112, cfn113⟩⟩, ⟨⟨cfn114, cfn115⟩, ⟨cfn116, cfn117⟩⟩⟩⟩, ⟨⟨⟨cfn118, ⟨cfn119, cfn120⟩⟩, ⟨⟨cfn121, cfn122⟩, ⟨cfn123, cfn124⟩⟩⟩, ⟨⟨⟨cfn125, cfn126⟩, ⟨cfn127, cfn128⟩⟩, ⟨⟨cfn129, cfn130⟩, ⟨cfn131, cfn132⟩⟩⟩⟩⟩, ⟨⟨⟨⟨cfn133, ⟨cfn134, cfn135⟩⟩, ⟨⟨cfn136, cfn137⟩, ⟨cfn138, cfn139⟩⟩⟩, ⟨⟨⟨cfn140, cfn141⟩, ⟨cfn142, cfn143⟩⟩, ⟨⟨cfn144, cfn145⟩, ⟨cfn147, cfn148⟩⟩⟩⟩, ⟨⟨⟨cfn149, ⟨cfn150, cfn152⟩⟩, ⟨⟨cfn153, cfn154⟩, ⟨cfn155, cfn156⟩⟩⟩, ⟨⟨⟨cfn158, cfn159⟩, ⟨cfn160, cfn161⟩⟩, ⟨⟨cfn162, cfn163⟩, ⟨cfn164, cfn165⟩⟩⟩⟩⟩⟩⟩, ⟨⟨⟨⟨⟨⟨cfn166, ⟨cfn167, cfn168⟩⟩, ⟨⟨cfn169, cfn170⟩, ⟨cfn171, cfn172⟩⟩⟩, ⟨⟨⟨cfn173, cfn174⟩, ⟨cfn175, cfn176⟩⟩, ⟨⟨cfn177, cfn178⟩, ⟨cfn179, cfn180⟩⟩⟩⟩, ⟨⟨⟨cfn181, ⟨cfn182, cfn183⟩⟩, ⟨⟨cfn184, cfn185⟩, ⟨cfn186, cfn187⟩⟩⟩, ⟨⟨⟨cfn188, cfn189⟩, ⟨cfn190, cfn191⟩⟩, ⟨⟨cfn193, cfn194⟩, ⟨cfn195, cfn196⟩⟩⟩⟩⟩, ⟨⟨⟨⟨cfn197, ⟨cfn198, cfn199⟩⟩, ⟨⟨cfn201, cfn202⟩, ⟨cfn203, cfn204⟩⟩⟩, ⟨⟨⟨cfn205, cfn206⟩, ⟨cfn207, cfn208⟩⟩, ⟨⟨cfn209, cfn210⟩, ⟨cfn211, cfn212⟩⟩⟩⟩, ⟨⟨⟨cfn213, ⟨cfn214, cfn215⟩⟩, ⟨⟨cfn216, cfn217⟩, ⟨cfn218, cfn219⟩⟩⟩, ⟨⟨⟨cfn220, cfn221⟩, ⟨cfn222, cfn223⟩⟩, ⟨⟨cfn224, cfn225⟩, ⟨cfn226, cfn227⟩⟩⟩⟩⟩⟩, ⟨⟨⟨⟨⟨cfn228, ⟨cfn229, cfn230⟩⟩, ⟨⟨cfn231, cfn232⟩, ⟨cfn233, cfn234⟩⟩⟩, ⟨⟨⟨cfn235, cfn236⟩, ⟨cfn237, cfn238⟩⟩, ⟨⟨cfn239, cfn240⟩, ⟨cfn241, cfn242⟩⟩⟩⟩, ⟨⟨⟨cfn243, ⟨cfn244, cfn245⟩⟩, ⟨⟨cfn246, cfn247⟩, ⟨cfn248, cfn249⟩⟩⟩, ⟨⟨⟨cfn250, cfn251⟩, ⟨cfn252, cfn253⟩⟩, ⟨⟨cfn254, cfn255⟩, ⟨cfn256, cfn257⟩⟩⟩⟩⟩, ⟨⟨⟨⟨cfn258, ⟨cfn259, cfn260⟩⟩, ⟨⟨cfn261, cfn262⟩, ⟨cfn263, cfn264⟩⟩⟩, ⟨⟨⟨cfn265, cfn266⟩, ⟨cfn267, cfn268⟩⟩, ⟨⟨cfn269, cfn270⟩, ⟨cfn271, cfn272⟩⟩⟩⟩, ⟨⟨⟨⟨cfn273, cfn274⟩, ⟨cfn275, cfn276⟩⟩, ⟨⟨cfn277, cfn278⟩, ⟨cfn279, cfn280⟩⟩⟩, ⟨⟨⟨cfn281, cfn282⟩, ⟨cfn283, cfn284⟩⟩, ⟨⟨cfn285, cfn286⟩, ⟨cfn287, cfn288⟩⟩⟩⟩⟩⟩⟩⟩
abbrev PrimFn := Nat → List AV → Hp → Key → Option (AV × Hp)
/-- slices.Clone of data. -/
def specClone (s : Nat) : PrimFn := fun _ args h key =>
  match args with
  | [.p (.frz _ n cs)] => if cs.length = n * s ∧ n ≤ 2 ^ 20 then some (.ref key ((h.get key).ver + 1) 0 n s false, h.alloc key (.cells ((PV.erL cs).map .p))) else none
  | _ => none
/-- slices.Insert of a row of ours into another row of ours. -/
def specInsert (s : Nat) : PrimFn := fun _ args h _ =>
  match args with
  | [.ref k ver off n s' _, .p (.int .i64 i), .ref k2 ver2 off2 m s2 clip2] =>
    (srcCells h s (.ref k2 ver2 off2 m s2 clip2)).bind fun (_, new) => (h.wcells k ver).bind fun cs =>
      if off = 0 ∧ n * s ≤ cs.length ∧ s' = s ∧ 0 < s ∧ 0 ≤ i ∧ i.toNat ≤ n ∧ k2 ≠ k ∧ 0 < m ∧ n + m ≤ 2 ^ 20 then
        some (.ref k (ver + 1) 0 (n + m) s false, h.set k ⟨ver + 1, false, some (.cells (cs.take (i.toNat * s) ++ new ++ (cs.take (n * s)).drop (i.toNat * s)))⟩) else none
  | _ => none
def polT (f : FuncId) : Pol := if [236, 251, 269, 85, 86, 92, 98, 100, 121, 158, 160, 169, 191, 193, 201, 217, 219, 220, 225, 238, 242, 257, 262, 263].any (Nat.beq f) then .byref else if [18, 33, 129, 171, 256].any (Nat.beq f) then .owned else .closed
def primT (pp : Option PrimFn) (f : FuncId) : Option PrimFn := if Nat.beq f 218 then pp else if Nat.beq f 259 then some (specClone 1) else if Nat.beq f 170 then some (specClone 2) else if Nat.beq f 168 then some (specInsert 2) else if Nat.beq f 159 then some (specInsert 1) else if Nat.beq f 116 then some (specClone 1) else if Nat.beq f 115 then some (specInsert 1) else if Nat.beq f 99 then some (specClone 3) else if Nat.beq f 97 then some (specClone 7) else none
def cxT (pp : Option PrimFn) : Cx where
  fns := tab.look
  pol := polT
  prim := primT pp
section
variable {pp : Option PrimFn}
@[simp] theorem pol_3 : (cxT pp).pol 3 = .closed := rfl
@[simp] theorem prim_3 : (cxT pp).prim 3 = none := rfl
@[simp] theorem pol_4 : (cxT pp).pol 4 = .closed := rfl
@[simp] theorem prim_4 : (cxT pp).prim 4 = none := rfl
@[simp] theorem pol_5 : (cxT pp).pol 5 = .closed := rfl
@[simp] theorem prim_5 : (cxT pp).prim 5 = none := rfl
@[simp] theorem pol_7 : (cxT pp).pol 7 = .closed := rfl
@[simp] theorem prim_7 : (cxT pp).prim 7 = none := rfl
@[simp] theorem pol_8 : (cxT pp).pol 8 = .closed := rfl
@[simp] theorem prim_8 : (cxT pp).prim 8 = none := rfl
theorem fns_9 : (cxT pp).fns 9 = some fn9 := rfl
@[simp] theorem pol_9 : (cxT pp).pol 9 = .closed := rfl
@[simp] theorem prim_9 : (cxT pp).prim 9 = none := rfl
theorem fun_9 (ps : List PV) : funD (cxT pp) 9 ps = closedD (cxT pp) fn9 ps := funD_of fns_9 ps
theorem fns_16 : (cxT pp).fns 16 = some fn16 := rfl
@[simp] theorem pol_16 : (cxT pp).pol 16 = .closed := rfl
@[simp] theorem prim_16 : (cxT pp).prim 16 = none := rfl
theorem fns_17 : (cxT pp).fns 17 = some fn17 := rfl
@[simp] theorem pol_17 : (cxT pp).pol 17 = .closed := rfl
@[simp] theorem prim_17 : (cxT pp).prim 17 = none := rfl
theorem fun_17 (ps : List PV) : funD (cxT pp) 17 ps = closedD (cxT pp) fn17 ps := funD_of fns_17 ps
theorem fns_18 : (cxT pp).fns 18 = some fn18 := rfl
@[simp] theorem pol_18 : (cxT pp).pol 18 = .owned := rfl
@[simp] theorem prim_18 : (cxT pp).prim 18 = none := rfl
@[simp] theorem pol_19 : (cxT pp).pol 19 = .closed := rfl
@[simp] theorem prim_19 : (cxT pp).prim 19 = none := rfl
theorem fns_20 : (cxT pp).fns 20 = some fn20 := rfl
@[simp] theorem pol_20 : (cxT pp).pol 20 = .closed := rfl
@[simp] theorem prim_20 : (cxT pp).prim 20 = none := rfl
theorem fun_20 (ps : List PV) : funD (cxT pp) 20 ps = closedD (cxT pp) fn20 ps := funD_of fns_20 ps
theorem fns_21 : (cxT pp).fns 21 = some fn21 := rfl
@[simp] theorem pol_21 : (cxT pp).pol 21 = .closed := rfl
@[simp] theorem prim_21 : (cxT pp).prim 21 = none := rfl
theorem fun_21 (ps : List PV) : funD (cxT pp) 21 ps = closedD (cxT pp) fn21 ps := funD_of fns_21 ps
@[simp] theorem pol_22 : (cxT pp).pol 22 = .closed := rfl
@[simp] theorem prim_22 : (cxT pp).prim 22 = none := rfl
@[simp] theorem pol_23 : (cxT pp).pol 23 = .closed := rfl
@[simp] theorem prim_23 : (cxT pp).prim 23 = none := rfl
theorem fns_24 : (cxT pp).fns 24 = some fn24 := rfl
@[simp] theorem pol_24 : (cxT pp).pol 24 = .closed := rfl
@[simp] theorem prim_24 : (cxT pp).prim 24 = none := rfl
theorem fun_24 (ps : List PV) : funD (cxT pp) 24 ps = closedD (cxT pp) fn24 ps := funD_of fns_24 ps
@[simp] theorem pol_25 : (cxT pp).pol 25 = .closed := rfl
@[simp] theorem prim_25 : (cxT pp).prim 25 = none := rfl
theorem fns_26 : (cxT pp).fns 26 = some fn26 := rfl
@[simp] theorem pol_26 : (cxT pp).pol 26 = .closed := rfl
@[simp] theorem prim_26 : (cxT pp).prim 26 = none := rfl
theorem fun_26 (ps : List PV) : funD (cxT pp) 26 ps = closedD (cxT pp) fn26 ps := funD_of fns_26 ps
@[simp] theorem pol_27 : (cxT pp).pol 27 = .closed := rfl
@[simp] theorem prim_27 : (cxT pp).prim 27 = none := rfl
@[simp] theorem pol_28 : (cxT pp).pol 28 = .closed := rfl
@[simp] theorem prim_28 : (cxT pp).prim 28 = none := rfl
theorem fns_29 : (cxT pp).fns 29 = some fn29 := rfl
@[simp] theorem pol_29 : (cxT pp).pol 29 = .closed := rfl
@[simp] theorem prim_29 : (cxT pp).prim 29 = none := rfl
theorem fun_29 (ps : List PV) : funD (cxT pp) 29 ps = closedD (cxT pp) fn29 ps := funD_of fns_29 ps
theorem fns_33 : (cxT pp).fns 33 = some fn33 := rfl
@[simp] theorem pol_33 : (cxT pp).pol 33 = .owned := rfl
@[simp] theorem prim_33 : (cxT pp).prim 33 = none := rfl
theorem fns_34 : (cxT pp).fns 34 = some fn34 := rfl
@[simp] theorem pol_34 : (cxT pp).pol 34 = .closed := rfl
@[simp] theorem prim_34 : (cxT pp).prim 34 = none := rfl
theorem fun_34 (ps : List PV) : funD (cxT pp) 34 ps = closedD (cxT pp) fn34 ps := funD_of fns_34 ps
theorem fns_35 : (cxT pp).fns 35 = some fn35 := rfl
@[simp] theorem pol_35 : (cxT pp).pol 35 = .closed := rfl
@[simp] theorem prim_35 : (cxT pp).prim 35 = none := rfl
theorem fun_35 (ps : List PV) : funD (cxT pp) 35 ps = closedD (cxT pp) fn35 ps := funD_of fns_35 ps
theorem fns_45 : (cxT pp).fns 45 = some fn45 := rfl
@[simp] theorem pol_45 : (cxT pp).pol 45 = .closed := rfl
@[simp] theorem prim_45 : (cxT pp).prim 45 = none := rfl
theorem fun_45 (ps : List PV) : funD (cxT pp) 45 ps = closedD (cxT pp) fn45 ps := funD_of fns_45 ps
@[simp] theorem pol_54 : (cxT pp).pol 54 = .closed := rfl
@[simp] theorem prim_54 : (cxT pp).prim 54 = none := rfl
@[simp] theorem pol_55 : (cxT pp).pol 55 = .closed := rfl
@[simp] theorem prim_55 : (cxT pp).prim 55 = none := rfl
@[simp] theorem pol_56 : (cxT pp).pol 56 = .closed := rfl
@[simp] theorem prim_56 : (cxT pp).prim 56 = none := rfl
@[simp] theorem pol_57 : (cxT pp).pol 57 = .closed := rfl
@[simp] theorem prim_57 : (cxT pp).prim 57 = none := rfl
theorem fns_58 : (cxT pp).fns 58 = some fn58 := rfl
@[simp] theorem pol_58 : (cxT pp).pol 58 = .closed := rfl
@[simp] theorem prim_58 : (cxT pp).prim 58 = none := rfl
theorem fun_58 (ps : List PV) : funD (cxT pp) 58 ps = closedD (cxT pp) fn58 ps := funD_of fns_58 ps
theorem fns_59 : (cxT pp).fns 59 = some fn59 := rfl
@[simp] theorem pol_59 : (cxT pp).pol 59 = .closed := rfl
@[simp] theorem prim_59 : (cxT pp).prim 59 = none := rfl
theorem fun_59 (ps : List PV) : funD (cxT pp) 59 ps = closedD (cxT pp) fn59 ps := funD_of fns_59 ps
theorem fns_60 : (cxT pp).fns 60 = some fn60 := rfl
@[simp] theorem pol_60 : (cxT pp).pol 60 = .closed := rfl
@[simp] theorem prim_60 : (cxT pp).prim 60 = none := rfl
theorem fun_60 (ps : List PV) : funD (cxT pp) 60 ps = closedD (cxT pp) fn60 ps := funD_of fns_60 ps
theorem fns_61 : (cxT pp).fns 61 = some fn61 := rfl
@[simp] theorem pol_61 : (cxT pp).pol 61 = .closed := rfl
@[simp] theorem prim_61 : (cxT pp).prim 61 = none := rfl
theorem fun_61 (ps : List PV) : funD (cxT pp) 61 ps = closedD (cxT pp) fn61 ps := funD_of fns_61 ps
theorem fns_62 : (cxT pp).fns 62 = some fn62 := rfl
@[simp] theorem pol_62 : (cxT pp).pol 62 = .closed := rfl
@[simp] theorem prim_62 : (cxT pp).prim 62 = none := rfl
theorem fun_62 (ps : List PV) : funD (cxT pp) 62 ps = closedD (cxT pp) fn62 ps := funD_of fns_62 ps
theorem fns_63 : (cxT pp).fns 63 = some fn63 := rfl
@[simp] theorem pol_63 : (cxT pp).pol 63 = .closed := rfl
@[simp] theorem prim_63 : (cxT pp).prim 63 = none := rfl
theorem fun_63 (ps : List PV) : funD (cxT pp) 63 ps = closedD (cxT pp) fn63 ps := funD_of fns_63 ps
theorem fns_64 : (cxT pp).fns 64 = some fn64 := rfl
@[simp] theorem pol_64 : (cxT pp).pol 64 = .closed := rfl
@[simp] theorem prim_64 : (cxT pp).prim 64 = none := rfl
theorem fun_64 (ps : List PV) : funD (cxT pp) 64 ps = closedD (cxT pp) fn64 ps := funD_of fns_64 ps
theorem fns_65 : (cxT pp).fns 65 = some fn65 := rfl
@[simp] theorem pol_65 : (cxT pp).pol 65 = .closed := rfl
@[simp] theorem prim_65 : (cxT pp).prim 65 = none := rfl
theorem fun_65 (ps : List PV) : funD (cxT pp) 65 ps = closedD (cxT pp) fn65 ps := funD_of fns_65 ps
theorem fns_66 : (cxT pp).fns 66 = some fn66 := rfl
@[simp] theorem pol_66 : (cxT pp).pol 66 = .closed := rfl
@[simp] theorem prim_66 : (cxT pp).prim 66 = none := rfl
theorem fun_66 (ps : List PV) : funD (cxT pp) 66 ps = closedD (cxT pp) fn66 ps := funD_of fns_66 ps
theorem fns_67 : (cxT pp).fns 67 = some fn67 := rfl
@[simp] theorem pol_67 : (cxT pp).pol 67 = .closed := rfl
@[simp] theorem prim_67 : (cxT pp).prim 67 = none := rfl
theorem fun_67 (ps : List PV) : funD (cxT pp) 67 ps = closedD (cxT pp) fn67 ps := funD_of fns_67 ps
theorem fns_68 : (cxT pp).fns 68 = some fn68 := rfl
@[simp] theorem pol_68 : (cxT pp).pol 68 = .closed := rfl
@[simp] theorem prim_68 : (cxT pp).prim 68 = none := rfl
theorem fun_68 (ps : List PV) : funD (cxT pp) 68 ps = closedD (cxT pp) fn68 ps := funD_of fns_68 ps
theorem fns_69 : (cxT pp).fns 69 = some fn69 := rfl
@[simp] theorem pol_69 : (cxT pp).pol 69 = .closed := rfl
@[simp] theorem prim_69 : (cxT pp).prim 69 = none := rfl
theorem fns_70 : (cxT pp).fns 70 = some fn70 := rfl
@[simp] theorem pol_70 : (cxT pp).pol 70 = .closed := rfl
@[simp] theorem prim_70 : (cxT pp).prim 70 = none := rfl
theorem fun_70 (ps : List PV) : funD (cxT pp) 70 ps = closedD (cxT pp) fn70 ps := funD_of fns_70 ps
theorem fns_71 : (cxT pp).fns 71 = some fn71 := rfl
@[simp] theorem pol_71 : (cxT pp).pol 71 = .closed := rfl
@[simp] theorem prim_71 : (cxT pp).prim 71 = none := rfl
theorem fun_71 (ps : List PV) : funD (cxT pp) 71 ps = closedD (cxT pp) fn71 ps := funD_of fns_71 ps
theorem fns_72 : (cxT pp).fns 72 = some fn72 := rfl
@[simp] theorem pol_72 : (cxT pp).pol 72 = .closed := rfl
@[simp] theorem prim_72 : (cxT pp).prim 72 = none := rfl
theorem fun_72 (ps : List PV) : funD (cxT pp) 72 ps = closedD (cxT pp) fn72 ps := funD_of fns_72 ps
theorem fns_73 : (cxT pp).fns 73 = some fn73 := rfl
@[simp] theorem pol_73 : (cxT pp).pol 73 = .closed := rfl
@[simp] theorem prim_73 : (cxT pp).prim 73 = none := rfl
theorem fun_73 (ps : List PV) : funD (cxT pp) 73 ps = closedD (cxT pp) fn73 ps := funD_of fns_73 ps
theorem fns_74 : (cxT pp).fns 74 = some fn74 := rfl
@[simp] theorem pol_74 : (cxT pp).pol 74 = .closed := rfl
@[simp] theorem prim_74 : (cxT pp).prim 74 = none := rfl
theorem fun_74 (ps : List PV) : funD (cxT pp) 74 ps = closedD (cxT pp) fn74 ps := funD_of fns_74 ps
@[simp] theorem pol_75 : (cxT pp).pol 75 = .closed := rfl
@[simp] theorem prim_75 : (cxT pp).prim 75 = none := rfl
theorem fns_76 : (cxT pp).fns 76 = some fn76 := rfl
@[simp] theorem pol_76 : (cxT pp).pol 76 = .closed := rfl
@[simp] theorem prim_76 : (cxT pp).prim 76 = none := rfl
theorem fns_77 : (cxT pp).fns 77 = some fn77 := rfl
@[simp] theorem pol_77 : (cxT pp).pol 77 = .closed := rfl
@[simp] theorem prim_77 : (cxT pp).prim 77 = none := rfl
theorem fns_78 : (cxT pp).fns 78 = some fn78 := rfl
@[simp] theorem pol_78 : (cxT pp).pol 78 = .closed := rfl
@[simp] theorem prim_78 : (cxT pp).prim 78 = none := rfl
theorem fns_80 : (cxT pp).fns 80 = some fn80 := rfl
@[simp] theorem pol_80 : (cxT pp).pol 80 = .closed := rfl
@[simp] theorem prim_80 : (cxT pp).prim 80 = none := rfl
theorem fun_80 (ps : List PV) : funD (cxT pp) 80 ps = closedD (cxT pp) fn80 ps := funD_of fns_80 ps
theorem fns_81 : (cxT pp).fns 81 = some fn81 := rfl
@[simp] theorem pol_81 : (cxT pp).pol 81 = .closed := rfl
@[simp] theorem prim_81 : (cxT pp).prim 81 = none := rfl
theorem fun_81 (ps : List PV) : funD (cxT pp) 81 ps = closedD (cxT pp) fn81 ps := funD_of fns_81 ps
theorem fns_82 : (cxT pp).fns 82 = some fn82 := rfl
@[simp] theorem pol_82 : (cxT pp).pol 82 = .closed := rfl
@[simp] theorem prim_82 : (cxT pp).prim 82 = none := rfl
theorem fun_82 (ps : List PV) : funD (cxT pp) 82 ps = closedD (cxT pp) fn82 ps := funD_of fns_82 ps
theorem fns_83 : (cxT pp).fns 83 = some fn83 := rfl
@[simp] theorem pol_83 : (cxT pp).pol 83 = .closed := rfl
@[simp] theorem prim_83 : (cxT pp).prim 83 = none := rfl
theorem fun_83 (ps : List PV) : funD (cxT pp) 83 ps = closedD (cxT pp) fn83 ps := funD_of fns_83 ps
theorem fns_84 : (cxT pp).fns 84 = some fn84 := rfl
@[simp] theorem pol_84 : (cxT pp).pol 84 = .closed := rfl
@[simp] theorem prim_84 : (cxT pp).prim 84 = none := rfl
theorem fun_84 (ps : List PV) : funD (cxT pp) 84 ps = closedD (cxT pp) fn84 ps := funD_of fns_84 ps
theorem fns_85 : (cxT pp).fns 85 = some fn85 := rfl
@[simp] theorem pol_85 : (cxT pp).pol 85 = .byref := rfl
@[simp] theorem prim_85 : (cxT pp).prim 85 = none := rfl
theorem fns_86 : (cxT pp).fns 86 = some fn86 := rfl
@[simp] theorem pol_86 : (cxT pp).pol 86 = .byref := rfl
@[simp] theorem prim_86 : (cxT pp).prim 86 = none := rfl
theorem fns_96 : (cxT pp).fns 96 = some fn96 := rfl
@[simp] theorem pol_96 : (cxT pp).pol 96 = .closed := rfl
@[simp] theorem prim_96 : (cxT pp).prim 96 = none := rfl
@[simp] theorem pol_97 : (cxT pp).pol 97 = .closed := rfl
@[simp] theorem prim_97 : (cxT pp).prim 97 = some (specClone 7) := rfl
@[simp] theorem pol_99 : (cxT pp).pol 99 = .closed := rfl
@[simp] theorem prim_99 : (cxT pp).prim 99 = some (specClone 3) := rfl
theorem fns_102 : (cxT pp).fns 102 = some fn102 := rfl
@[simp] theorem pol_102 : (cxT pp).pol 102 = .closed := rfl
@[simp] theorem prim_102 : (cxT pp).prim 102 = none := rfl
theorem fun_102 (ps : List PV) : funD (cxT pp) 102 ps = closedD (cxT pp) fn102 ps := funD_of fns_102 ps
theorem fns_103 : (cxT pp).fns 103 = some fn103 := rfl
@[simp] theorem pol_103 : (cxT pp).pol 103 = .closed := rfl
@[simp] theorem prim_103 : (cxT pp).prim 103 = none := rfl
theorem fun_103 (ps : List PV) : funD (cxT pp) 103 ps = closedD (cxT pp) fn103 ps := funD_of fns_103 ps
theorem fns_107 : (cxT pp).fns 107 = some fn107 := rfl
@[simp] theorem pol_107 : (cxT pp).pol 107 = .closed := rfl
@[simp] theorem prim_107 : (cxT pp).prim 107 = none := rfl
theorem fun_107 (ps : List PV) : funD (cxT pp) 107 ps = closedD (cxT pp) fn107 ps := funD_of fns_107 ps
theorem fns_108 : (cxT pp).fns 108 = some fn108 := rfl
@[simp] theorem pol_108 : (cxT pp).pol 108 = .closed := rfl
@[simp] theorem prim_108 : (cxT pp).prim 108 = none := rfl
theorem fun_108 (ps : List PV) : funD (cxT pp) 108 ps = closedD (cxT pp) fn108 ps := funD_of fns_108 ps
theorem fns_109 : (cxT pp).fns 109 = some fn109 := rfl
@[simp] theorem pol_109 : (cxT pp).pol 109 = .closed := rfl
@[simp] theorem prim_109 : (cxT pp).prim 109 = none := rfl
theorem fun_109 (ps : List PV) : funD (cxT pp) 109 ps = closedD (cxT pp) fn109 ps := funD_of fns_109 ps
theorem fns_110 : (cxT pp).fns 110 = some fn110 := rfl
@[simp] theorem pol_110 : (cxT pp).pol 110 = .closed := rfl
@[simp] theorem prim_110 : (cxT pp).prim 110 = none := rfl
theorem fun_110 (ps : List PV) : funD (cxT pp) 110 ps = closedD (cxT pp) fn110 ps := funD_of fns_110 ps
theorem fns_111 : (cxT pp).fns 111 = some fn111 := rfl
@[simp] theorem pol_111 : (cxT pp).pol 111 = .closed := rfl
@[simp] theorem prim_111 : (cxT pp).prim 111 = none := rfl
theorem fun_111 (ps : List PV) : funD (cxT pp) 111 ps = closedD (cxT pp) fn111 ps := funD_of fns_111 ps
theorem fns_112 : (cxT pp).fns 112 = some fn112 := rfl
@[simp] theorem pol_112 : (cxT pp).pol 112 = .closed := rfl
@[simp] theorem prim_112 : (cxT pp).prim 112 = none := rfl
theorem fun_112 (ps : List PV) : funD (cxT pp) 112 ps = closedD (cxT pp) fn112 ps := funD_of fns_112 ps
theorem fns_113 : (cxT pp).fns 113 = some fn113 := rfl
@[simp] theorem pol_113 : (cxT pp).pol 113 = .closed := rfl
@[simp] theorem prim_113 : (cxT pp).prim 113 = none := rfl
theorem fun_113 (ps : List PV) : funD (cxT pp) 113 ps = closedD (cxT pp) fn113 ps := funD_of fns_113 ps
theorem fns_114 : (cxT pp).fns 114 = some fn114 := rfl
@[simp] theorem pol_114 : (cxT pp).pol 114 = .closed := rfl
@[simp] theorem prim_114 : (cxT pp).prim 114 = none := rfl
theorem fun_114 (ps : List PV) : funD (cxT pp) 114 ps = closedD (cxT pp) fn114 ps := funD_of fns_114 ps
@[simp] theorem pol_115 : (cxT pp).pol 115 = .closed := rfl
@[simp] theorem prim_115 : (cxT pp).prim 115 = some (specInsert 1) := rfl
@[simp] theorem pol_116 : (cxT pp).pol 116 = .closed := rfl
@[simp] theorem prim_116 : (cxT pp).prim 116 = some (specClone 1) := rfl
theorem fns_117 : (cxT pp).fns 117 = some fn117 := rfl
@[simp] theorem pol_117 : (cxT pp).pol 117 = .closed := rfl
@[simp] theorem prim_117 : (cxT pp).prim 117 = none := rfl
theorem fns_118 : (cxT pp).fns 118 = some fn118 := rfl
@[simp] theorem pol_118 : (cxT pp).pol 118 = .closed := rfl
@[simp] theorem prim_118 : (cxT pp).prim 118 = none := rfl
theorem fun_118 (ps : List PV) : funD (cxT pp) 118 ps = closedD (cxT pp) fn118 ps := funD_of fns_118 ps
theorem fns_119 : (cxT pp).fns 119 = some fn119 := rfl
@[simp] theorem pol_119 : (cxT pp).pol 119 = .closed := rfl
@[simp] theorem prim_119 : (cxT pp).prim 119 = none := rfl
theorem fun_119 (ps : List PV) : funD (cxT pp) 119 ps = closedD (cxT pp) fn119 ps := funD_of fns_119 ps
theorem fns_120 : (cxT pp).fns 120 = some fn120 := rfl
@[simp] theorem pol_120 : (cxT pp).pol 120 = .closed := rfl
@[simp] theorem prim_120 : (cxT pp).prim 120 = none := rfl
theorem fun_120 (ps : List PV) : funD (cxT pp) 120 ps = closedD (cxT pp) fn120 ps := funD_of fns_120 ps
theorem fns_121 : (cxT pp).fns 121 = some fn121 := rfl
@[simp] theorem pol_121 : (cxT pp).pol 121 = .byref := rfl
@[simp] theorem prim_121 : (cxT pp).prim 121 = none := rfl
theorem fns_122 : (cxT pp).fns 122 = some fn122 := rfl
@[simp] theorem pol_122 : (cxT pp).pol 122 = .closed := rfl
@[simp] theorem prim_122 : (cxT pp).prim 122 = none := rfl
theorem fun_122 (ps : List PV) : funD (cxT pp) 122 ps = closedD (cxT pp) fn122 ps := funD_of fns_122 ps
theorem fns_123 : (cxT pp).fns 123 = some fn123 := rfl
@[simp] theorem pol_123 : (cxT pp).pol 123 = .closed := rfl
@[simp] theorem prim_123 : (cxT pp).prim 123 = none := rfl
theorem fun_123 (ps : List PV) : funD (cxT pp) 123 ps = closedD (cxT pp) fn123 ps := funD_of fns_123 ps
theorem fns_124 : (cxT pp).fns 124 = some fn124 := rfl
@[simp] theorem pol_124 : (cxT pp).pol 124 = .closed := rfl
@[simp] theorem prim_124 : (cxT pp).prim 124 = none := rfl
theorem fun_124 (ps : List PV) : funD (cxT pp) 124 ps = closedD (cxT pp) fn124 ps := funD_of fns_124 ps
theorem fns_125 : (cxT pp).fns 125 = some fn125 := rfl
@[simp] theorem pol_125 : (cxT pp).pol 125 = .closed := rfl
@[simp] theorem prim_125 : (cxT pp).prim 125 = none := rfl
theorem fun_125 (ps : List PV) : funD (cxT pp) 125 ps = closedD (cxT pp) fn125 ps := funD_of fns_125 ps
theorem fns_126 : (cxT pp).fns 126 = some fn126 := rfl
@[simp] theorem pol_126 : (cxT pp).pol 126 = .closed := rfl
@[simp] theorem prim_126 : (cxT pp).prim 126 = none := rfl
theorem fun_126 (ps : List PV) : funD (cxT pp) 126 ps = closedD (cxT pp) fn126 ps := funD_of fns_126 ps
theorem fns_127 : (cxT pp).fns 127 = some fn127 := rfl
@[simp] theorem pol_127 : (cxT pp).pol 127 = .closed := rfl
@[simp] theorem prim_127 : (cxT pp).prim 127 = none := rfl
theorem fun_127 (ps : List PV) : funD (cxT pp) 127 ps = closedD (cxT pp) fn127 ps := funD_of fns_127 ps
theorem fns_128 : (cxT pp).fns 128 = some fn128 := rfl
@[simp] theorem pol_128 : (cxT pp).pol 128 = .closed := rfl
@[simp] theorem prim_128 : (cxT pp).prim 128 = none := rfl
theorem fun_128 (ps : List PV) : funD (cxT pp) 128 ps = closedD (cxT pp) fn128 ps := funD_of fns_128 ps
theorem fns_129 : (cxT pp).fns 129 = some fn129 := rfl
@[simp] theorem pol_129 : (cxT pp).pol 129 = .owned := rfl
@[simp] theorem prim_129 : (cxT pp).prim 129 = none := rfl
theorem fns_130 : (cxT pp).fns 130 = some fn130 := rfl
@[simp] theorem pol_130 : (cxT pp).pol 130 = .closed := rfl
@[simp] theorem prim_130 : (cxT pp).prim 130 = none := rfl
theorem fun_130 (ps : List PV) : funD (cxT pp) 130 ps = closedD (cxT pp) fn130 ps := funD_of fns_130 ps
theorem fns_131 : (cxT pp).fns 131 = some fn131 := rfl
@[simp] theorem pol_131 : (cxT pp).pol 131 = .closed := rfl
@[simp] theorem prim_131 : (cxT pp).prim 131 = none := rfl
theorem fun_131 (ps : List PV) : funD (cxT pp) 131 ps = closedD (cxT pp) fn131 ps := funD_of fns_131 ps
theorem fns_132 : (cxT pp).fns 132 = some fn132 := rfl
@[simp] theorem pol_132 : (cxT pp).pol 132 = .closed := rfl
@[simp] theorem prim_132 : (cxT pp).prim 132 = none := rfl
theorem fun_132 (ps : List PV) : funD (cxT pp) 132 ps = closedD (cxT pp) fn132 ps := funD_of fns_132 ps
theorem fns_133 : (cxT pp).fns 133 = some fn133 := rfl
@[simp] theorem pol_133 : (cxT pp).pol 133 = .closed := rfl
@[simp] theorem prim_133 : (cxT pp).prim 133 = none := rfl
theorem fun_133 (ps : List PV) : funD (cxT pp) 133 ps = closedD (cxT pp) fn133 ps := funD_of fns_133 ps
theorem fns_134 : (cxT pp).fns 134 = some fn134 := rfl
@[simp] theorem pol_134 : (cxT pp).pol 134 = .closed := rfl
@[simp] theorem prim_134 : (cxT pp).prim 134 = none := rfl
theorem fun_134 (ps : List PV) : funD (cxT pp) 134 ps = closedD (cxT pp) fn134 ps := funD_of fns_134 ps
theorem fns_135 : (cxT pp).fns 135 = some fn135 := rfl
@[simp] theorem pol_135 : (cxT pp).pol 135 = .closed := rfl
@[simp] theorem prim_135 : (cxT pp).prim 135 = none := rfl
theorem fun_135 (ps : List PV) : funD (cxT pp) 135 ps = closedD (cxT pp) fn135 ps := funD_of fns_135 ps
theorem fns_136 : (cxT pp).fns 136 = some fn136 := rfl
@[simp] theorem pol_136 : (cxT pp).pol 136 = .closed := rfl
@[simp] theorem prim_136 : (cxT pp).prim 136 = none := rfl
theorem fun_136 (ps : List PV) : funD (cxT pp) 136 ps = closedD (cxT pp) fn136 ps := funD_of fns_136 ps
theorem fns_137 : (cxT pp).fns 137 = some fn137 := rfl
@[simp] theorem pol_137 : (cxT pp).pol 137 = .closed := rfl
@[simp] theorem prim_137 : (cxT pp).prim 137 = none := rfl
theorem fun_137 (ps : List PV) : funD (cxT pp) 137 ps = closedD (cxT pp) fn137 ps := funD_of fns_137 ps
theorem fns_138 : (cxT pp).fns 138 = some fn138 := rfl
@[simp] theorem pol_138 : (cxT pp).pol 138 = .closed := rfl
@[simp] theorem prim_138 : (cxT pp).prim 138 = none := rfl
theorem fun_138 (ps : List PV) : funD (cxT pp) 138 ps = closedD (cxT pp) fn138 ps := funD_of fns_138 ps
theorem fns_139 : (cxT pp).fns 139 = some fn139 := rfl
@[simp] theorem pol_139 : (cxT pp).pol 139 = .closed := rfl
@[simp] theorem prim_139 : (cxT pp).prim 139 = none := rfl
theorem fun_139 (ps : List PV) : funD (cxT pp) 139 ps = closedD (cxT pp) fn139 ps := funD_of fns_139 ps
theorem fns_140 : (cxT pp).fns 140 = some fn140 := rfl
@[simp] theorem pol_140 : (cxT pp).pol 140 = .closed := rfl
@[simp] theorem prim_140 : (cxT pp).prim 140 = none := rfl
theorem fun_140 (ps : List PV) : funD (cxT pp) 140 ps = closedD (cxT pp) fn140 ps := funD_of fns_140 ps
@[simp] theorem pol_141 : (cxT pp).pol 141 = .closed := rfl
@[simp] theorem prim_141 : (cxT pp).prim 141 = none := rfl
@[simp] theorem pol_142 : (cxT pp).pol 142 = .closed := rfl
@[simp] theorem prim_142 : (cxT pp).prim 142 = none := rfl
@[simp] theorem pol_143 : (cxT pp).pol 143 = .closed := rfl
@[simp] theorem prim_143 : (cxT pp).prim 143 = none := rfl
@[simp] theorem pol_144 : (cxT pp).pol 144 = .closed := rfl
@[simp] theorem prim_144 : (cxT pp).prim 144 = none := rfl
theorem fns_145 : (cxT pp).fns 145 = some fn145 := rfl
@[simp] theorem pol_145 : (cxT pp).pol 145 = .closed := rfl
@[simp] theorem prim_145 : (cxT pp).prim 145 = none := rfl
theorem fns_147 : (cxT pp).fns 147 = some fn147 := rfl
@[simp] theorem pol_147 : (cxT pp).pol 147 = .closed := rfl
@[simp] theorem prim_147 : (cxT pp).prim 147 = none := rfl
theorem fns_148 : (cxT pp).fns 148 = some fn148 := rfl
@[simp] theorem pol_148 : (cxT pp).pol 148 = .closed := rfl
@[simp] theorem prim_148 : (cxT pp).prim 148 = none := rfl
theorem fun_148 (ps : List PV) : funD (cxT pp) 148 ps = closedD (cxT pp) fn148 ps := funD_of fns_148 ps
theorem fns_149 : (cxT pp).fns 149 = some fn149 := rfl
@[simp] theorem pol_149 : (cxT pp).pol 149 = .closed := rfl
@[simp] theorem prim_149 : (cxT pp).prim 149 = none := rfl
theorem fun_149 (ps : List PV) : funD (cxT pp) 149 ps = closedD (cxT pp) fn149 ps := funD_of fns_149 ps
theorem fns_150 : (cxT pp).fns 150 = some fn150 := rfl
@[simp] theorem pol_150 : (cxT pp).pol 150 = .closed := rfl
@[simp] theorem prim_150 : (cxT pp).prim 150 = none := rfl
theorem fun_150 (ps : List PV) : funD (cxT pp) 150 ps = closedD (cxT pp) fn150 ps := funD_of fns_150 ps
theorem fns_152 : (cxT pp).fns 152 = some fn152 := rfl
@[simp] theorem pol_152 : (cxT pp).pol 152 = .closed := rfl
@[simp] theorem prim_152 : (cxT pp).prim 152 = none := rfl
theorem fun_152 (ps : List PV) : funD (cxT pp) 152 ps = closedD (cxT pp) fn152 ps := funD_of fns_152 ps
theorem fns_153 : (cxT pp).fns 153 = some fn153 := rfl
@[simp] theorem pol_153 : (cxT pp).pol 153 = .closed := rfl
@[simp] theorem prim_153 : (cxT pp).prim 153 = none := rfl
theorem fns_154 : (cxT pp).fns 154 = some fn154 := rfl
@[simp] theorem pol_154 : (cxT pp).pol 154 = .closed := rfl
@[simp] theorem prim_154 : (cxT pp).prim 154 = none := rfl
theorem fun_154 (ps : List PV) : funD (cxT pp) 154 ps = closedD (cxT pp) fn154 ps := funD_of fns_154 ps
theorem fns_155 : (cxT pp).fns 155 = some fn155 := rfl
@[simp] theorem pol_155 : (cxT pp).pol 155 = .closed := rfl
@[simp] theorem prim_155 : (cxT pp).prim 155 = none := rfl
theorem fun_155 (ps : List PV) : funD (cxT pp) 155 ps = closedD (cxT pp) fn155 ps := funD_of fns_155 ps
theorem fns_156 : (cxT pp).fns 156 = some fn156 := rfl
@[simp] theorem pol_156 : (cxT pp).pol 156 = .closed := rfl
@[simp] theorem prim_156 : (cxT pp).prim 156 = none := rfl
theorem fun_156 (ps : List PV) : funD (cxT pp) 156 ps = closedD (cxT pp) fn156 ps := funD_of fns_156 ps
theorem fns_158 : (cxT pp).fns 158 = some fn158 := rfl
@[simp] theorem pol_158 : (cxT pp).pol 158 = .byref := rfl
@[simp] theorem prim_158 : (cxT pp).prim 158 = none := rfl
@[simp] theorem pol_159 : (cxT pp).pol 159 = .closed := rfl
@[simp] theorem prim_159 : (cxT pp).prim 159 = some (specInsert 1) := rfl
theorem fns_160 : (cxT pp).fns 160 = some fn160 := rfl
@[simp] theorem pol_160 : (cxT pp).pol 160 = .byref := rfl
@[simp] theorem prim_160 : (cxT pp).prim 160 = none := rfl
@[simp] theorem pol_161 : (cxT pp).pol 161 = .closed := rfl
@[simp] theorem prim_161 : (cxT pp).prim 161 = none := rfl
theorem fns_162 : (cxT pp).fns 162 = some fn162 := rfl
@[simp] theorem pol_162 : (cxT pp).pol 162 = .closed := rfl
@[simp] theorem prim_162 : (cxT pp).prim 162 = none := rfl
theorem fun_162 (ps : List PV) : funD (cxT pp) 162 ps = closedD (cxT pp) fn162 ps := funD_of fns_162 ps
theorem fns_163 : (cxT pp).fns 163 = some fn163 := rfl
@[simp] theorem pol_163 : (cxT pp).pol 163 = .closed := rfl
@[simp] theorem prim_163 : (cxT pp).prim 163 = none := rfl
theorem fun_163 (ps : List PV) : funD (cxT pp) 163 ps = closedD (cxT pp) fn163 ps := funD_of fns_163 ps
theorem fns_164 : (cxT pp).fns 164 = some fn164 := rfl
@[simp] theorem pol_164 : (cxT pp).pol 164 = .closed := rfl
@[simp] theorem prim_164 : (cxT pp).prim 164 = none := rfl
theorem fun_164 (ps : List PV) : funD (cxT pp) 164 ps = closedD (cxT pp) fn164 ps := funD_of fns_164 ps
theorem fns_165 : (cxT pp).fns 165 = some fn165 := rfl
@[simp] theorem pol_165 : (cxT pp).pol 165 = .closed := rfl
@[simp] theorem prim_165 : (cxT pp).prim 165 = none := rfl
theorem fun_165 (ps : List PV) : funD (cxT pp) 165 ps = closedD (cxT pp) fn165 ps := funD_of fns_165 ps
theorem fns_166 : (cxT pp).fns 166 = some fn166 := rfl
@[simp] theorem pol_166 : (cxT pp).pol 166 = .closed := rfl
@[simp] theorem prim_166 : (cxT pp).prim 166 = none := rfl
theorem fun_166 (ps : List PV) : funD (cxT pp) 166 ps = closedD (cxT pp) fn166 ps := funD_of fns_166 ps
theorem fns_167 : (cxT pp).fns 167 = some fn167 := rfl
@[simp] theorem pol_167 : (cxT pp).pol 167 = .closed := rfl
@[simp] theorem prim_167 : (cxT pp).prim 167 = none := rfl
theorem fun_167 (ps : List PV) : funD (cxT pp) 167 ps = closedD (cxT pp) fn167 ps := funD_of fns_167 ps
@[simp] theorem pol_168 : (cxT pp).pol 168 = .closed := rfl
@[simp] theorem prim_168 : (cxT pp).prim 168 = some (specInsert 2) := rfl
theorem fns_169 : (cxT pp).fns 169 = some fn169 := rfl
@[simp] theorem pol_169 : (cxT pp).pol 169 = .byref := rfl
@[simp] theorem prim_169 : (cxT pp).prim 169 = none := rfl
@[simp] theorem pol_170 : (cxT pp).pol 170 = .closed := rfl
@[simp] theorem prim_170 : (cxT pp).prim 170 = some (specClone 2) := rfl
theorem fns_171 : (cxT pp).fns 171 = some fn171 := rfl
@[simp] theorem pol_171 : (cxT pp).pol 171 = .owned := rfl
@[simp] theorem prim_171 : (cxT pp).prim 171 = none := rfl
theorem fns_172 : (cxT pp).fns 172 = some fn172 := rfl
@[simp] theorem pol_172 : (cxT pp).pol 172 = .closed := rfl
@[simp] theorem prim_172 : (cxT pp).prim 172 = none := rfl
theorem fun_172 (ps : List PV) : funD (cxT pp) 172 ps = closedD (cxT pp) fn172 ps := funD_of fns_172 ps
theorem fns_173 : (cxT pp).fns 173 = some fn173 := rfl
@[simp] theorem pol_173 : (cxT pp).pol 173 = .closed := rfl
@[simp] theorem prim_173 : (cxT pp).prim 173 = none := rfl
theorem fun_173 (ps : List PV) : funD (cxT pp) 173 ps = closedD (cxT pp) fn173 ps := funD_of fns_173 ps
theorem fns_174 : (cxT pp).fns 174 = some fn174 := rfl
@[simp] theorem pol_174 : (cxT pp).pol 174 = .closed := rfl
@[simp] theorem prim_174 : (cxT pp).prim 174 = none := rfl
theorem fun_174 (ps : List PV) : funD (cxT pp) 174 ps = closedD (cxT pp) fn174 ps := funD_of fns_174 ps
theorem fns_175 : (cxT pp).fns 175 = some fn175 := rfl
@[simp] theorem pol_175 : (cxT pp).pol 175 = .closed := rfl
@[simp] theorem prim_175 : (cxT pp).prim 175 = none := rfl
theorem fns_176 : (cxT pp).fns 176 = some fn176 := rfl
@[simp] theorem pol_176 : (cxT pp).pol 176 = .closed := rfl
@[simp] theorem prim_176 : (cxT pp).prim 176 = none := rfl
theorem fun_176 (ps : List PV) : funD (cxT pp) 176 ps = closedD (cxT pp) fn176 ps := funD_of fns_176 ps
theorem fns_177 : (cxT pp).fns 177 = some fn177 := rfl
@[simp] theorem pol_177 : (cxT pp).pol 177 = .closed := rfl
@[simp] theorem prim_177 : (cxT pp).prim 177 = none := rfl
theorem fun_177 (ps : List PV) : funD (cxT pp) 177 ps = closedD (cxT pp) fn177 ps := funD_of fns_177 ps
theorem fns_178 : (cxT pp).fns 178 = some fn178 := rfl
@[simp] theorem pol_178 : (cxT pp).pol 178 = .closed := rfl
@[simp] theorem prim_178 : (cxT pp).prim 178 = none := rfl
theorem fun_178 (ps : List PV) : funD (cxT pp) 178 ps = closedD (cxT pp) fn178 ps := funD_of fns_178 ps
@[simp] theorem pol_179 : (cxT pp).pol 179 = .closed := rfl
@[simp] theorem prim_179 : (cxT pp).prim 179 = none := rfl
@[simp] theorem pol_180 : (cxT pp).pol 180 = .closed := rfl
@[simp] theorem prim_180 : (cxT pp).prim 180 = none := rfl
@[simp] theorem pol_181 : (cxT pp).pol 181 = .closed := rfl
@[simp] theorem prim_181 : (cxT pp).prim 181 = none := rfl
@[simp] theorem pol_182 : (cxT pp).pol 182 = .closed := rfl
@[simp] theorem prim_182 : (cxT pp).prim 182 = none := rfl
@[simp] theorem pol_183 : (cxT pp).pol 183 = .closed := rfl
@[simp] theorem prim_183 : (cxT pp).prim 183 = none := rfl
theorem fns_184 : (cxT pp).fns 184 = some fn184 := rfl
@[simp] theorem pol_184 : (cxT pp).pol 184 = .closed := rfl
@[simp] theorem prim_184 : (cxT pp).prim 184 = none := rfl
theorem fun_184 (ps : List PV) : funD (cxT pp) 184 ps = closedD (cxT pp) fn184 ps := funD_of fns_184 ps
theorem fns_185 : (cxT pp).fns 185 = some fn185 := rfl
@[simp] theorem pol_185 : (cxT pp).pol 185 = .closed := rfl
@[simp] theorem prim_185 : (cxT pp).prim 185 = none := rfl
theorem fun_185 (ps : List PV) : funD (cxT pp) 185 ps = closedD (cxT pp) fn185 ps := funD_of fns_185 ps
theorem fns_186 : (cxT pp).fns 186 = some fn186 := rfl
@[simp] theorem pol_186 : (cxT pp).pol 186 = .closed := rfl
@[simp] theorem prim_186 : (cxT pp).prim 186 = none := rfl
theorem fun_186 (ps : List PV) : funD (cxT pp) 186 ps = closedD (cxT pp) fn186 ps := funD_of fns_186 ps
theorem fns_187 : (cxT pp).fns 187 = some fn187 := rfl
@[simp] theorem pol_187 : (cxT pp).pol 187 = .closed := rfl
@[simp] theorem prim_187 : (cxT pp).prim 187 = none := rfl
@[simp] theorem pol_188 : (cxT pp).pol 188 = .closed := rfl
@[simp] theorem prim_188 : (cxT pp).prim 188 = none := rfl
theorem fns_189 : (cxT pp).fns 189 = some fn189 := rfl
@[simp] theorem pol_189 : (cxT pp).pol 189 = .closed := rfl
@[simp] theorem prim_189 : (cxT pp).prim 189 = none := rfl
theorem fun_189 (ps : List PV) : funD (cxT pp) 189 ps = closedD (cxT pp) fn189 ps := funD_of fns_189 ps
theorem fns_190 : (cxT pp).fns 190 = some fn190 := rfl
@[simp] theorem pol_190 : (cxT pp).pol 190 = .closed := rfl
@[simp] theorem prim_190 : (cxT pp).prim 190 = none := rfl
theorem fun_190 (ps : List PV) : funD (cxT pp) 190 ps = closedD (cxT pp) fn190 ps := funD_of fns_190 ps
theorem fns_193 : (cxT pp).fns 193 = some fn193 := rfl
@[simp] theorem pol_193 : (cxT pp).pol 193 = .byref := rfl
@[simp] theorem prim_193 : (cxT pp).prim 193 = none := rfl
theorem fns_195 : (cxT pp).fns 195 = some fn195 := rfl
@[simp] theorem pol_195 : (cxT pp).pol 195 = .closed := rfl
@[simp] theorem prim_195 : (cxT pp).prim 195 = none := rfl
theorem fun_195 (ps : List PV) : funD (cxT pp) 195 ps = closedD (cxT pp) fn195 ps := funD_of fns_195 ps
theorem fns_196 : (cxT pp).fns 196 = some fn196 := rfl
@[simp] theorem pol_196 : (cxT pp).pol 196 = .closed := rfl
@[simp] theorem prim_196 : (cxT pp).prim 196 = none := rfl
theorem fns_197 : (cxT pp).fns 197 = some fn197 := rfl
@[simp] theorem pol_197 : (cxT pp).pol 197 = .closed := rfl
@[simp] theorem prim_197 : (cxT pp).prim 197 = none := rfl
theorem fns_198 : (cxT pp).fns 198 = some fn198 := rfl
@[simp] theorem pol_198 : (cxT pp).pol 198 = .closed := rfl
@[simp] theorem prim_198 : (cxT pp).prim 198 = none := rfl
theorem fun_198 (ps : List PV) : funD (cxT pp) 198 ps = closedD (cxT pp) fn198 ps := funD_of fns_198 ps
theorem fns_199 : (cxT pp).fns 199 = some fn199 := rfl
@[simp] theorem pol_199 : (cxT pp).pol 199 = .closed := rfl
@[simp] theorem prim_199 : (cxT pp).prim 199 = none := rfl
theorem fun_199 (ps : List PV) : funD (cxT pp) 199 ps = closedD (cxT pp) fn199 ps := funD_of fns_199 ps
theorem fns_201 : (cxT pp).fns 201 = some fn201 := rfl
@[simp] theorem pol_201 : (cxT pp).pol 201 = .byref := rfl
@[simp] theorem prim_201 : (cxT pp).prim 201 = none := rfl
theorem fns_202 : (cxT pp).fns 202 = some fn202 := rfl
@[simp] theorem pol_202 : (cxT pp).pol 202 = .closed := rfl
@[simp] theorem prim_202 : (cxT pp).prim 202 = none := rfl
theorem fun_202 (ps : List PV) : funD (cxT pp) 202 ps = closedD (cxT pp) fn202 ps := funD_of fns_202 ps
theorem fns_203 : (cxT pp).fns 203 = some fn203 := rfl
@[simp] theorem pol_203 : (cxT pp).pol 203 = .closed := rfl
@[simp] theorem prim_203 : (cxT pp).prim 203 = none := rfl
theorem fns_204 : (cxT pp).fns 204 = some fn204 := rfl
@[simp] theorem pol_204 : (cxT pp).pol 204 = .closed := rfl
@[simp] theorem prim_204 : (cxT pp).prim 204 = none := rfl
theorem fun_204 (ps : List PV) : funD (cxT pp) 204 ps = closedD (cxT pp) fn204 ps := funD_of fns_204 ps
theorem fns_205 : (cxT pp).fns 205 = some fn205 := rfl
@[simp] theorem pol_205 : (cxT pp).pol 205 = .closed := rfl
@[simp] theorem prim_205 : (cxT pp).prim 205 = none := rfl
theorem fun_205 (ps : List PV) : funD (cxT pp) 205 ps = closedD (cxT pp) fn205 ps := funD_of fns_205 ps
@[simp] theorem pol_207 : (cxT pp).pol 207 = .closed := rfl
@[simp] theorem prim_207 : (cxT pp).prim 207 = none := rfl
theorem fns_214 : (cxT pp).fns 214 = some fn214 := rfl
@[simp] theorem pol_214 : (cxT pp).pol 214 = .closed := rfl
@[simp] theorem prim_214 : (cxT pp).prim 214 = none := rfl
theorem fun_214 (ps : List PV) : funD (cxT pp) 214 ps = closedD (cxT pp) fn214 ps := funD_of fns_214 ps
@[simp] theorem pol_215 : (cxT pp).pol 215 = .closed := rfl
@[simp] theorem prim_215 : (cxT pp).prim 215 = none := rfl
@[simp] theorem pol_216 : (cxT pp).pol 216 = .closed := rfl
@[simp] theorem prim_216 : (cxT pp).prim 216 = none := rfl
theorem fns_217 : (cxT pp).fns 217 = some fn217 := rfl
@[simp] theorem pol_217 : (cxT pp).pol 217 = .byref := rfl
@[simp] theorem prim_217 : (cxT pp).prim 217 = none := rfl
@[simp] theorem pol_218 : (cxT pp).pol 218 = .closed := rfl
@[simp] theorem prim_218 : (cxT pp).prim 218 = pp := rfl
@[simp] theorem pol_221 : (cxT pp).pol 221 = .closed := rfl
@[simp] theorem prim_221 : (cxT pp).prim 221 = none := rfl
@[simp] theorem pol_222 : (cxT pp).pol 222 = .closed := rfl
@[simp] theorem prim_222 : (cxT pp).prim 222 = none := rfl
@[simp] theorem pol_223 : (cxT pp).pol 223 = .closed := rfl
@[simp] theorem prim_223 : (cxT pp).prim 223 = none := rfl
@[simp] theorem pol_224 : (cxT pp).pol 224 = .closed := rfl
@[simp] theorem prim_224 : (cxT pp).prim 224 = none := rfl
theorem fns_226 : (cxT pp).fns 226 = some fn226 := rfl
@[simp] theorem pol_226 : (cxT pp).pol 226 = .closed := rfl
@[simp] theorem prim_226 : (cxT pp).prim 226 = none := rfl
@[simp] theorem pol_227 : (cxT pp).pol 227 = .closed := rfl
@[simp] theorem prim_227 : (cxT pp).prim 227 = none := rfl
@[simp] theorem pol_228 : (cxT pp).pol 228 = .closed := rfl
@[simp] theorem prim_228 : (cxT pp).prim 228 = none := rfl
@[simp] theorem pol_229 : (cxT pp).pol 229 = .closed := rfl
@[simp] theorem prim_229 : (cxT pp).prim 229 = none := rfl
theorem fns_232 : (cxT pp).fns 232 = some fn232 := rfl
@[simp] theorem pol_232 : (cxT pp).pol 232 = .closed := rfl
@[simp] theorem prim_232 : (cxT pp).prim 232 = none := rfl
theorem fun_232 (ps : List PV) : funD (cxT pp) 232 ps = closedD (cxT pp) fn232 ps := funD_of fns_232 ps
@[simp] theorem pol_235 : (cxT pp).pol 235 = .closed := rfl
@[simp] theorem prim_235 : (cxT pp).prim 235 = none := rfl
theorem fns_236 : (cxT pp).fns 236 = some fn236 := rfl
@[simp] theorem pol_236 : (cxT pp).pol 236 = .byref := rfl
@[simp] theorem prim_236 : (cxT pp).prim 236 = none := rfl
theorem fns_237 : (cxT pp).fns 237 = some fn237 := rfl
@[simp] theorem pol_237 : (cxT pp).pol 237 = .closed := rfl
@[simp] theorem prim_237 : (cxT pp).prim 237 = none := rfl
theorem fun_237 (ps : List PV) : funD (cxT pp) 237 ps = closedD (cxT pp) fn237 ps := funD_of fns_237 ps
theorem fns_246 : (cxT pp).fns 246 = some fn246 := rfl
@[simp] theorem pol_246 : (cxT pp).pol 246 = .closed := rfl
@[simp] theorem prim_246 : (cxT pp).prim 246 = none := rfl
theorem fun_246 (ps : List PV) : funD (cxT pp) 246 ps = closedD (cxT pp) fn246 ps := funD_of fns_246 ps
theorem fns_251 : (cxT pp).fns 251 = some fn251 := rfl
@[simp] theorem pol_251 : (cxT pp).pol 251 = .byref := rfl
@[simp] theorem prim_251 : (cxT pp).prim 251 = none := rfl
theorem fns_252 : (cxT pp).fns 252 = some fn252 := rfl
@[simp] theorem pol_252 : (cxT pp).pol 252 = .closed := rfl
@[simp] theorem prim_252 : (cxT pp).prim 252 = none := rfl
@[simp] theorem pol_259 : (cxT pp).pol 259 = .closed := rfl
@[simp] theorem prim_259 : (cxT pp).prim 259 = some (specClone 1) := rfl
theorem fns_269 : (cxT pp).fns 269 = some fn269 := rfl
@[simp] theorem pol_269 : (cxT pp).pol 269 = .byref := rfl
@[simp] theorem prim_269 : (cxT pp).prim 269 = none := rfl
@[simp] theorem pol_270 : (cxT pp).pol 270 = .closed := rfl
@[simp] theorem prim_270 : (cxT pp).prim 270 = none := rfl
@[simp] theorem pol_271 : (cxT pp).pol 271 = .closed := rfl
@[simp] theorem prim_271 : (cxT pp).prim 271 = none := rfl
@[simp] theorem pol_272 : (cxT pp).pol 272 = .closed := rfl
@[simp] theorem prim_272 : (cxT pp).prim 272 = none := rfl
@[simp] theorem pol_273 : (cxT pp).pol 273 = .closed := rfl
@[simp] theorem prim_273 : (cxT pp).prim 273 = none := rfl
@[simp] theorem pol_274 : (cxT pp).pol 274 = .closed := rfl
@[simp] theorem prim_274 : (cxT pp).prim 274 = none := rfl
@[simp] theorem pol_275 : (cxT pp).pol 275 = .closed := rfl
@[simp] theorem prim_275 : (cxT pp).prim 275 = none := rfl
@[simp] theorem pol_276 : (cxT pp).pol 276 = .closed := rfl
@[simp] theorem prim_276 : (cxT pp).prim 276 = none := rfl
@[simp] theorem pol_277 : (cxT pp).pol 277 = .closed := rfl
@[simp] theorem prim_277 : (cxT pp).prim 277 = none := rfl
@[simp] theorem pol_278 : (cxT pp).pol 278 = .closed := rfl
@[simp] theorem prim_278 : (cxT pp).prim 278 = none := rfl
end
end Go.Va
end
section
open Go.Proofs
namespace Go.Va
/-- Does a function answer so? (to be run by the kernel) -/
def runIs (pp : Option PrimFn) (f : FuncId) (fn : AFn) (ps : List PV) (r : PV) : Bool :=
  match closedFn (cxT pp) (evCall (cxT pp) 100) 100 fn ps with
  | some x => x.beq r
  | none => false
theorem runIs_fun {pp : Option PrimFn} {f : FuncId} {fn : AFn} {ps : List PV} {r : PV} (hf : (cxT pp).fns f = some fn) (h : runIs pp f fn ps r = true) : funD (cxT pp) f ps = some r := by
  rw [funD_fev]
  unfold runIs at h
  split at h
  · rename_i x hx
    rw [PV.beq_eq h] at hx
    exact ⟨100, fn, hf, hx⟩
  · cases h
/-- The whole numbers from -n to n. -/
def upto (n : Nat) : List Int := (List.range (2 * n + 1)).map fun (i : Nat) => (i : Int) - (n : Int)
theorem mem_upto {n : Nat} {z : Int} (h1 : -(n : Int) ≤ z) (h2 : z ≤ n) : z ∈ upto n := by
  unfold upto
  rw [List.mem_map]
  exact ⟨(z + n).toNat, by rw [List.mem_range]; omega, by omega⟩

end Go.Va
end
section
open Go.Proofs
namespace Go.Va
variable {pp : Option PrimFn}
set_option maxRecDepth 1000000

def sgn (z : Int) : Int := if z < 0 then -1 else if z = 0 then 0 else 1

theorem all1 {n : Nat} {p : Int → Bool} (h : (upto n).all p = true) (z : Int) (hz : z.natAbs ≤ n) : p z = true :=
  List.all_eq_true.1 h z (mem_upto (by omega) (by omega))
theorem all2 {n m : Nat} {p : Int → Int → Bool} (h : ((upto n).all fun z => (upto m).all fun y => p z y) = true) (z y : Int) (hz : z.natAbs ≤ n) (hy : y.natAbs ≤ m) : p z y = true :=
  all1 (all1 (p := fun z => (upto m).all fun y => p z y) h z hz) y hy

theorem r2valid_all : ((upto 12).all fun z => runIs pp 203 fn203 [.agg (cRat z)] (.bool true)) = true := by kernel_rfl
theorem r2sign_all : ((upto 12).all fun z => runIs pp 153 fn153 [.agg (cRat z)] (.int .i64 (sgn z))) = true := by kernel_rfl
theorem r2mul_all : ((upto 3).all fun z => runIs pp 145 fn145 [.agg (cRat z), .agg (cRat 1)] (.agg (cRat z))) = true := by kernel_rfl
theorem r2whole_all : ((upto 12).all fun z => runIs pp 77 fn77 [.int .i64 z] (.agg (cRat z))) = true := by kernel_rfl
theorem r2add_m9 : ((upto 3).all fun y => runIs pp 147 fn147 [.agg (cRat (-9)), .agg (cRat y)] (.agg (cRat ((-9) + y)))) = true := by kernel_rfl
theorem r2add_m8 : ((upto 3).all fun y => runIs pp 147 fn147 [.agg (cRat (-8)), .agg (cRat y)] (.agg (cRat ((-8) + y)))) = true := by kernel_rfl
theorem r2add_m7 : ((upto 3).all fun y => runIs pp 147 fn147 [.agg (cRat (-7)), .agg (cRat y)] (.agg (cRat ((-7) + y)))) = true := by kernel_rfl
theorem r2add_m6 : ((upto 3).all fun y => runIs pp 147 fn147 [.agg (cRat (-6)), .agg (cRat y)] (.agg (cRat ((-6) + y)))) = true := by kernel_rfl
theorem r2add_m5 : ((upto 3).all fun y => runIs pp 147 fn147 [.agg (cRat (-5)), .agg (cRat y)] (.agg (cRat ((-5) + y)))) = true := by kernel_rfl
theorem r2add_m4 : ((upto 3).all fun y => runIs pp 147 fn147 [.agg (cRat (-4)), .agg (cRat y)] (.agg (cRat ((-4) + y)))) = true := by kernel_rfl
theorem r2add_m3 : ((upto 3).all fun y => runIs pp 147 fn147 [.agg (cRat (-3)), .agg (cRat y)] (.agg (cRat ((-3) + y)))) = true := by kernel_rfl
theorem r2add_m2 : ((upto 3).all fun y => runIs pp 147 fn147 [.agg (cRat (-2)), .agg (cRat y)] (.agg (cRat ((-2) + y)))) = true := by kernel_rfl
theorem r2add_m1 : ((upto 3).all fun y => runIs pp 147 fn147 [.agg (cRat (-1)), .agg (cRat y)] (.agg (cRat ((-1) + y)))) = true := by kernel_rfl
theorem r2add_0 : ((upto 3).all fun y => runIs pp 147 fn147 [.agg (cRat 0), .agg (cRat y)] (.agg (cRat (0 + y)))) = true := by kernel_rfl
theorem r2add_1 : ((upto 3).all fun y => runIs pp 147 fn147 [.agg (cRat 1), .agg (cRat y)] (.agg (cRat (1 + y)))) = true := by kernel_rfl
theorem r2add_2 : ((upto 3).all fun y => runIs pp 147 fn147 [.agg (cRat 2), .agg (cRat y)] (.agg (cRat (2 + y)))) = true := by kernel_rfl
theorem r2add_3 : ((upto 3).all fun y => runIs pp 147 fn147 [.agg (cRat 3), .agg (cRat y)] (.agg (cRat (3 + y)))) = true := by kernel_rfl
theorem r2add_4 : ((upto 3).all fun y => runIs pp 147 fn147 [.agg (cRat 4), .agg (cRat y)] (.agg (cRat (4 + y)))) = true := by kernel_rfl
theorem r2add_5 : ((upto 3).all fun y => runIs pp 147 fn147 [.agg (cRat 5), .agg (cRat y)] (.agg (cRat (5 + y)))) = true := by kernel_rfl
theorem r2add_6 : ((upto 3).all fun y => runIs pp 147 fn147 [.agg (cRat 6), .agg (cRat y)] (.agg (cRat (6 + y)))) = true := by kernel_rfl
theorem r2add_7 : ((upto 3).all fun y => runIs pp 147 fn147 [.agg (cRat 7), .agg (cRat y)] (.agg (cRat (7 + y)))) = true := by kernel_rfl
theorem r2add_8 : ((upto 3).all fun y => runIs pp 147 fn147 [.agg (cRat 8), .agg (cRat y)] (.agg (cRat (8 + y)))) = true := by kernel_rfl
theorem r2add_9 : ((upto 3).all fun y => runIs pp 147 fn147 [.agg (cRat 9), .agg (cRat y)] (.agg (cRat (9 + y)))) = true := by kernel_rfl
theorem r2add_all (z y : Int) (hz : z.natAbs ≤ 9) (hy : y.natAbs ≤ 3) : runIs pp 147 fn147 [.agg (cRat z), .agg (cRat y)] (.agg (cRat (z + y))) = true := by
  have h : z = (-9) ∨ z = (-8) ∨ z = (-7) ∨ z = (-6) ∨ z = (-5) ∨ z = (-4) ∨ z = (-3) ∨ z = (-2) ∨ z = (-1) ∨ z = 0 ∨ z = 1 ∨ z = 2 ∨ z = 3 ∨ z = 4 ∨ z = 5 ∨ z = 6 ∨ z = 7 ∨ z = 8 ∨ z = 9 := by omega
  rcases h with rfl | rfl | rfl | rfl | rfl | rfl | rfl | rfl | rfl | rfl | rfl | rfl | rfl | rfl | rfl | rfl | rfl | rfl | rfl
  · exact all1 r2add_m9 y hy
  · exact all1 r2add_m8 y hy
  · exact all1 r2add_m7 y hy
  · exact all1 r2add_m6 y hy
  · exact all1 r2add_m5 y hy
  · exact all1 r2add_m4 y hy
  · exact all1 r2add_m3 y hy
  · exact all1 r2add_m2 y hy
  · exact all1 r2add_m1 y hy
  · exact all1 r2add_0 y hy
  · exact all1 r2add_1 y hy
  · exact all1 r2add_2 y hy
  · exact all1 r2add_3 y hy
  · exact all1 r2add_4 y hy
  · exact all1 r2add_5 y hy
  · exact all1 r2add_6 y hy
  · exact all1 r2add_7 y hy
  · exact all1 r2add_8 y hy
  · exact all1 r2add_9 y hy
theorem r2same_m12 : ((upto 12).all fun y => runIs pp 78 fn78 [.agg (cRat (-12)), .agg (cRat y)] (.bool (decide ((-12) = y)))) = true := by kernel_rfl
theorem r2same_m11 : ((upto 12).all fun y => runIs pp 78 fn78 [.agg (cRat (-11)), .agg (cRat y)] (.bool (decide ((-11) = y)))) = true := by kernel_rfl
theorem r2same_m10 : ((upto 12).all fun y => runIs pp 78 fn78 [.agg (cRat (-10)), .agg (cRat y)] (.bool (decide ((-10) = y)))) = true := by kernel_rfl
theorem r2same_m9 : ((upto 12).all fun y => runIs pp 78 fn78 [.agg (cRat (-9)), .agg (cRat y)] (.bool (decide ((-9) = y)))) = true := by kernel_rfl
theorem r2same_m8 : ((upto 12).all fun y => runIs pp 78 fn78 [.agg (cRat (-8)), .agg (cRat y)] (.bool (decide ((-8) = y)))) = true := by kernel_rfl
theorem r2same_m7 : ((upto 12).all fun y => runIs pp 78 fn78 [.agg (cRat (-7)), .agg (cRat y)] (.bool (decide ((-7) = y)))) = true := by kernel_rfl
theorem r2same_m6 : ((upto 12).all fun y => runIs pp 78 fn78 [.agg (cRat (-6)), .agg (cRat y)] (.bool (decide ((-6) = y)))) = true := by kernel_rfl
theorem r2same_m5 : ((upto 12).all fun y => runIs pp 78 fn78 [.agg (cRat (-5)), .agg (cRat y)] (.bool (decide ((-5) = y)))) = true := by kernel_rfl
theorem r2same_m4 : ((upto 12).all fun y => runIs pp 78 fn78 [.agg (cRat (-4)), .agg (cRat y)] (.bool (decide ((-4) = y)))) = true := by kernel_rfl
theorem r2same_m3 : ((upto 12).all fun y => runIs pp 78 fn78 [.agg (cRat (-3)), .agg (cRat y)] (.bool (decide ((-3) = y)))) = true := by kernel_rfl
theorem r2same_m2 : ((upto 12).all fun y => runIs pp 78 fn78 [.agg (cRat (-2)), .agg (cRat y)] (.bool (decide ((-2) = y)))) = true := by kernel_rfl
theorem r2same_m1 : ((upto 12).all fun y => runIs pp 78 fn78 [.agg (cRat (-1)), .agg (cRat y)] (.bool (decide ((-1) = y)))) = true := by kernel_rfl
theorem r2same_0 : ((upto 12).all fun y => runIs pp 78 fn78 [.agg (cRat 0), .agg (cRat y)] (.bool (decide (0 = y)))) = true := by kernel_rfl
theorem r2same_1 : ((upto 12).all fun y => runIs pp 78 fn78 [.agg (cRat 1), .agg (cRat y)] (.bool (decide (1 = y)))) = true := by kernel_rfl
theorem r2same_2 : ((upto 12).all fun y => runIs pp 78 fn78 [.agg (cRat 2), .agg (cRat y)] (.bool (decide (2 = y)))) = true := by kernel_rfl
theorem r2same_3 : ((upto 12).all fun y => runIs pp 78 fn78 [.agg (cRat 3), .agg (cRat y)] (.bool (decide (3 = y)))) = true := by kernel_rfl
theorem r2same_4 : ((upto 12).all fun y => runIs pp 78 fn78 [.agg (cRat 4), .agg (cRat y)] (.bool (decide (4 = y)))) = true := by kernel_rfl
theorem r2same_5 : ((upto 12).all fun y => runIs pp 78 fn78 [.agg (cRat 5), .agg (cRat y)] (.bool (decide (5 = y)))) = true := by kernel_rfl
theorem r2same_6 : ((upto 12).all fun y => runIs pp 78 fn78 [.agg (cRat 6), .agg (cRat y)] (.bool (decide (6 = y)))) = true := by kernel_rfl
theorem r2same_7 : ((upto 12).all fun y => runIs pp 78 fn78 [.agg (cRat 7), .agg (cRat y)] (.bool (decide (7 = y)))) = true := by kernel_rfl
theorem r2same_8 : ((upto 12).all fun y => runIs pp 78 fn78 [.agg (cRat 8), .agg (cRat y)] (.bool (decide (8 = y)))) = true := by kernel_rfl
theorem r2same_9 : ((upto 12).all fun y => runIs pp 78 fn78 [.agg (cRat 9), .agg (cRat y)] (.bool (decide (9 = y)))) = true := by kernel_rfl
theorem r2same_10 : ((upto 12).all fun y => runIs pp 78 fn78 [.agg (cRat 10), .agg (cRat y)] (.bool (decide (10 = y)))) = true := by kernel_rfl
theorem r2same_11 : ((upto 12).all fun y => runIs pp 78 fn78 [.agg (cRat 11), .agg (cRat y)] (.bool (decide (11 = y)))) = true := by kernel_rfl
theorem r2same_12 : ((upto 12).all fun y => runIs pp 78 fn78 [.agg (cRat 12), .agg (cRat y)] (.bool (decide (12 = y)))) = true := by kernel_rfl
theorem r2same_all (z y : Int) (hz : z.natAbs ≤ 12) (hy : y.natAbs ≤ 12) : runIs pp 78 fn78 [.agg (cRat z), .agg (cRat y)] (.bool (decide (z = y))) = true := by
  have h : z = (-12) ∨ z = (-11) ∨ z = (-10) ∨ z = (-9) ∨ z = (-8) ∨ z = (-7) ∨ z = (-6) ∨ z = (-5) ∨ z = (-4) ∨ z = (-3) ∨ z = (-2) ∨ z = (-1) ∨ z = 0 ∨ z = 1 ∨ z = 2 ∨ z = 3 ∨ z = 4 ∨ z = 5 ∨ z = 6 ∨ z = 7 ∨ z = 8 ∨ z = 9 ∨ z = 10 ∨ z = 11 ∨ z = 12 := by omega
  rcases h with rfl | rfl | rfl | rfl | rfl | rfl | rfl | rfl | rfl | rfl | rfl | rfl | rfl | rfl | rfl | rfl | rfl | rfl | rfl | rfl | rfl | rfl | rfl | rfl | rfl
  · exact all1 r2same_m12 y hy
  · exact all1 r2same_m11 y hy
  · exact all1 r2same_m10 y hy
  · exact all1 r2same_m9 y hy
  · exact all1 r2same_m8 y hy
  · exact all1 r2same_m7 y hy
  · exact all1 r2same_m6 y hy
  · exact all1 r2same_m5 y hy
  · exact all1 r2same_m4 y hy
  · exact all1 r2same_m3 y hy
  · exact all1 r2same_m2 y hy
  · exact all1 r2same_m1 y hy
  · exact all1 r2same_0 y hy
  · exact all1 r2same_1 y hy
  · exact all1 r2same_2 y hy
  · exact all1 r2same_3 y hy
  · exact all1 r2same_4 y hy
  · exact all1 r2same_5 y hy
  · exact all1 r2same_6 y hy
  · exact all1 r2same_7 y hy
  · exact all1 r2same_8 y hy
  · exact all1 r2same_9 y hy
  · exact all1 r2same_10 y hy
  · exact all1 r2same_11 y hy
  · exact all1 r2same_12 y hy
theorem qvalid_all : ((upto 12).all fun z => runIs pp 196 fn196 [.agg (cRat z)] (.bool true)) = true := by kernel_rfl
theorem qsign_all : ((upto 12).all fun z => runIs pp 197 fn197 [.agg (cRat z)] (.int .i64 (sgn z))) = true := by kernel_rfl

theorem r2valid (z : Int) (hz : z.natAbs ≤ 12) : funD (cxT pp) 203 [.agg (cRat z)] = some (.bool true) := runIs_fun fns_203 (all1 r2valid_all z hz)
theorem r2sign (z : Int) (hz : z.natAbs ≤ 12) : funD (cxT pp) 153 [.agg (cRat z)] = some (.int .i64 (sgn z)) := runIs_fun fns_153 (all1 r2sign_all z hz)
theorem r2mul (z : Int) (hz : z.natAbs ≤ 3) : funD (cxT pp) 145 [.agg (cRat z), .agg (cRat 1)] = some (.agg (cRat z)) := runIs_fun fns_145 (all1 r2mul_all z hz)
theorem r2whole (z : Int) (hz : z.natAbs ≤ 12) : funD (cxT pp) 77 [.int .i64 z] = some (.agg (cRat z)) := runIs_fun fns_77 (all1 r2whole_all z hz)
theorem r2add (z y : Int) (hz : z.natAbs ≤ 9) (hy : y.natAbs ≤ 3) : funD (cxT pp) 147 [.agg (cRat z), .agg (cRat y)] = some (.agg (cRat (z + y))) := runIs_fun fns_147 (r2add_all z y hz hy)
theorem r2same (z y : Int) (hz : z.natAbs ≤ 12) (hy : y.natAbs ≤ 12) : funD (cxT pp) 78 [.agg (cRat z), .agg (cRat y)] = some (.bool (decide (z = y))) := runIs_fun fns_78 (r2same_all z y hz hy)
theorem qvalid (z : Int) (hz : z.natAbs ≤ 12) : funD (cxT pp) 196 [.agg (cRat z)] = some (.bool true) := runIs_fun fns_196 (all1 qvalid_all z hz)
theorem qsign (z : Int) (hz : z.natAbs ≤ 12) : funD (cxT pp) 197 [.agg (cRat z)] = some (.int .i64 (sgn z)) := runIs_fun fns_197 (all1 qsign_all z hz)

/-! ## Small tables -/
def rotI (a b i : Int) : Int := if i = a then b else if a < i ∧ i ≤ b then i - 1 else if i < a ∧ b ≤ i then i + 1 else i
/-- The permutation that moves a to b. -/
def rotL (a b : Int) : List Int := [rotI a b 0, rotI a b 1, rotI a b 2, rotI a b 3, rotI a b 4, rotI a b 5, rotI a b 6, rotI a b 7]
def nat4 : List Int := [0, 1, 2, 3, 4]
theorem mem_nat4 {z : Int} (h0 : 0 ≤ z) (h1 : z ≤ 4) : z ∈ nat4 := by
  simp [nat4]; omega
theorem rot_all : (nat4.all fun a => nat4.all fun b => runIs pp 69 fn69 [.int .i64 a, .int .i64 b] (.agg (ints (rotL a b)))) = true := by kernel_rfl
theorem rotated_spec (a b : Int) (ha : 0 ≤ a ∧ a ≤ 4) (hb : 0 ≤ b ∧ b ≤ 4) : funD (cxT pp) 69 [.int .i64 a, .int .i64 b] = some (.agg (ints (rotL a b))) :=
  runIs_fun fns_69 (List.all_eq_true.1 (List.all_eq_true.1 rot_all a (mem_nat4 ha.1 ha.2)) b (mem_nat4 hb.1 hb.2))
def swpI (a b i : Int) : Int := if i = a then b else if i = b then a else i
/-- The permutation that exchanges a and b. -/
def swpL (a b : Int) : List Int := [swpI a b 0, swpI a b 1, swpI a b 2, swpI a b 3, swpI a b 4, swpI a b 5, swpI a b 6, swpI a b 7]
theorem isperm_rot_all : (nat4.all fun a => nat4.all fun b => runIs pp 175 fn175 [.agg (ints (rotL a b))] (.bool true)) = true := by kernel_rfl
theorem isperm_swp_all : (nat4.all fun a => nat4.all fun b => runIs pp 175 fn175 [.agg (ints (swpL a b))] (.bool true)) = true := by kernel_rfl
/-- The permutations that occur. -/
def IsPerm (l : List Int) : Prop := ∃ a b, (0 ≤ a ∧ a ≤ 4) ∧ (0 ≤ b ∧ b ≤ 4) ∧ (l = rotL a b ∨ l = swpL a b)
theorem isperm_spec {l : List Int} (h : IsPerm l) : funD (cxT pp) 175 [.agg (ints l)] = some (.bool true) := by
  obtain ⟨a, b, ha, hb, rfl | rfl⟩ := h
  · exact runIs_fun fns_175 (List.all_eq_true.1 (List.all_eq_true.1 isperm_rot_all a (mem_nat4 ha.1 ha.2)) b (mem_nat4 hb.1 hb.2))
  · exact runIs_fun fns_175 (List.all_eq_true.1 (List.all_eq_true.1 isperm_swp_all a (mem_nat4 ha.1 ha.2)) b (mem_nat4 hb.1 hb.2))
def nat8 : List Nat := [0, 1, 2, 3, 4, 5, 6, 7]
theorem bit_all : (nat8.all fun i => runIs pp 226 fn226 [.int .i64 i] (.int .u8 (2 ^ i : Nat))) = true := by kernel_rfl
theorem bit_spec (i : Nat) (hi : i < 8) : funD (cxT pp) 226 [.int .i64 i] = some (.int .u8 (2 ^ i : Nat)) :=
  runIs_fun fns_226 (List.all_eq_true.1 bit_all i (by simp [nat8]; omega))
/-- The names that edits are made with. -/
def name6 : List ByteArray := [⟨#[120]⟩, ⟨#[121]⟩, ⟨#[122]⟩, ⟨#[119]⟩, ⟨#[117, 95, 49]⟩, ⟨#[65, 98, 99]⟩]
theorem names_spec : funD (cxT pp) 96 [] = some (names name6) := runIs_fun fns_96 (by kernel_rfl)
end Go.Va
end
