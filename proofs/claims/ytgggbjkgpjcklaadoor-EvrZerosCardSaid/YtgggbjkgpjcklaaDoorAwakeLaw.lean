/-
  What the calls at the head of all statements come to: plain laws. No conditions.
-/
import Derived.Test.YtgggbjkgpjcklaaDoorEvrOrd
import Derived.Test.YtgggbjkgpjcklaaDoorWalkE
namespace Go.Proofs.YtgggbjkgpjcklaaDoor
set_option linter.unusedVariables false
set_option linter.unusedSimpArgs false

theorem aw_parse : parse [50, 58, 49, 46, 48, 45, 114, 99, 49, 45, 51] = some ([50], [49, 46, 48, 45, 114, 99, 49], [51]) := by decide
theorem aw_p1 : parse [49, 46, 49, 48] = some ([], [49, 46, 49, 48], []) := by decide
theorem aw_p2 : parse [49, 46, 57] = some ([], [49, 46, 57], []) := by decide
theorem aw_p3 : parse [49, 46, 48, 126, 114, 99, 49] = some ([], [49, 46, 48, 126, 114, 99, 49], []) := by decide
theorem aw_p4 : parse [49, 46, 48] = some ([], [49, 46, 48], []) := by decide
theorem aw_p5 : parse [50, 46, 48] = some ([], [50, 46, 48], []) := by decide
theorem aw_r1 : rpmT [49, 46, 49, 48] [49, 46, 57] = 1 := by
  rw [rpmT_eq]
  simp [skip, odd, dig, lett, rpmS, cnt, cmpN, strip, cmpB]
  rw [rpmT_eq]
  simp [skip, odd, dig, lett, rpmS, cnt, cmpN, strip, cmpB, sgn]
theorem aw_r2 : rpmT [50, 46, 48] [49, 46, 48] = 1 := by
  rw [rpmT_eq]
  simp [skip, odd, dig, lett, rpmS, cnt, cmpN, strip, cmpB]
theorem aw_d1 : debT [49, 46, 48, 126, 114, 99, 49] [49, 46, 48] = -1 := by
  rw [debT_d (by decide) (by decide)]
  simp [dig, cnt, cmpN, strip, cmpB]
  rw [debT_w (by decide)]
  simp [weight, dig, lett]
  rw [debT_d (by decide) (by decide)]
  simp [dig, cnt, cmpN, strip, cmpB]
  rw [debT_w (by decide)]
  simp [weight, dig, lett, sgn]
theorem aw_c1 : compareE 1 [49, 46, 49, 48] [49, 46, 57] = (1, 0) := by
  unfold compareE
  rw [aw_p1, aw_p2]
  simp [partsC, aw_r1, cmpN, strip, cmpB]
theorem aw_c2 : compareE 2 [49, 46, 48, 126, 114, 99, 49] [49, 46, 48] = (-1, 0) := by
  unfold compareE
  rw [aw_p3, aw_p4]
  simp [partsC, aw_d1, cmpN, strip, cmpB]
theorem aw_m : meetsE 1 4 [50, 46, 48] 1 [49, 46, 48] = (false, 0) := by
  unfold meetsE
  rw [aw_p5, aw_p4]
  simp [partsC, aw_r2, cmpN, strip, cmpB, meetsC]
end Go.Proofs.YtgggbjkgpjcklaaDoor
