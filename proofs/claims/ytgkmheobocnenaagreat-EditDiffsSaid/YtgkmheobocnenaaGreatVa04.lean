/- Towards the law: a small language into which the program is turned, its soundness, and what the functions answer: part 4. -/
import Derived.Test.YtgkmheobocnenaaGreatVa03
set_option linter.unusedSimpArgs false
set_option linter.unusedVariables false
set_option linter.unusedSectionVars false
set_option linter.unnecessarySimpa false
section
open Go.Proofs
namespace Go.Va
variable {pp : Option PrimFn}
set_option maxRecDepth 1000000 in
theorem qcmp_0 : ([(-12), (-11), (-10), (-9), (-8), (-7), (-6)].all fun (z : Int) => (upto 12).all fun y => runIs pp 187 fn187 [.agg (cRat z), .agg (cRat y)] (.int .i64 (sgn (z - y)))) = true := by kernel_rfl
set_option maxRecDepth 1000000 in
theorem qcmp_1 : ([(-5), (-4), (-3), (-2), (-1), 0].all fun (z : Int) => (upto 12).all fun y => runIs pp 187 fn187 [.agg (cRat z), .agg (cRat y)] (.int .i64 (sgn (z - y)))) = true := by kernel_rfl
set_option maxRecDepth 1000000 in
theorem qcmp_2 : ([1, 2, 3, 4, 5, 6].all fun (z : Int) => (upto 12).all fun y => runIs pp 187 fn187 [.agg (cRat z), .agg (cRat y)] (.int .i64 (sgn (z - y)))) = true := by kernel_rfl
set_option maxRecDepth 1000000 in
theorem qcmp_3 : ([7, 8, 9, 10, 11, 12].all fun (z : Int) => (upto 12).all fun y => runIs pp 187 fn187 [.agg (cRat z), .agg (cRat y)] (.int .i64 (sgn (z - y)))) = true := by kernel_rfl
theorem qcmp_all (z y : Int) (hz : z.natAbs ≤ 12) (hy : y.natAbs ≤ 12) : runIs pp 187 fn187 [.agg (cRat z), .agg (cRat y)] (.int .i64 (sgn (z - y))) = true := by
  by_cases c0 : z ≤ -6
  · have h : z ∈ ([(-12), (-11), (-10), (-9), (-8), (-7), (-6)] : List Int) := by
      simp only [List.mem_cons, List.not_mem_nil, or_false]; omega
    exact all1 (List.all_eq_true.1 qcmp_0 z h) y hy
  by_cases c1 : z ≤ 0
  · have h : z ∈ ([(-5), (-4), (-3), (-2), (-1), 0] : List Int) := by
      simp only [List.mem_cons, List.not_mem_nil, or_false]; omega
    exact all1 (List.all_eq_true.1 qcmp_1 z h) y hy
  by_cases c2 : z ≤ 6
  · have h : z ∈ ([1, 2, 3, 4, 5, 6] : List Int) := by
      simp only [List.mem_cons, List.not_mem_nil, or_false]; omega
    exact all1 (List.all_eq_true.1 qcmp_2 z h) y hy
  have h : z ∈ ([7, 8, 9, 10, 11, 12] : List Int) := by
    simp only [List.mem_cons, List.not_mem_nil, or_false]; omega
  exact all1 (List.all_eq_true.1 qcmp_3 z h) y hy
theorem qcmp (z y : Int) (hz : z.natAbs ≤ 12) (hy : y.natAbs ≤ 12) : funD (cxT pp) 187 [.agg (cRat z), .agg (cRat y)] = some (.int .i64 (sgn (z - y))) := runIs_fun fns_187 (qcmp_all z y hz hy)
end Go.Va
end
