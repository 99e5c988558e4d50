/- GuardNews: the card. -/
import Derived.Test.YtaiakjkdplhooaaGreatDoorAmGnewsRow1
namespace Go.Proofs.YtaiakjkdplhooaaGreatDoor
open Go Go.Shelf
open Go.ChangeShapes Go.WideShapes Go.ChangeAt Go.RowKit Go.Lib

theorem gnews_c1 : (Rows.guardNewsRow.inPlace == Tryz.prog.inPlace 13) = true := by kernel_rfl
theorem gnews_c2 : (Rows.guardNewsRow.unfollowed == Tryz.prog.unfollowed 13) = true := by kernel_rfl
theorem gnews_c3 : (Rows.guardNewsRow.recurses == Tryz.prog.recurses 13) = true := by kernel_rfl
theorem gnews_c4 : (Rows.guardNewsRow.named == Tryz.prog.varsNamed 13) = true := by kernel_rfl
theorem gnews_closed : joinedFacts Tryz.prog 13 Tryz.f13 (OpenSpec.ofChange Rows.guardNewsSpec).bare Rows.guardNewsRow = true := by
  unfold joinedFacts
  rw [gnews_c1, gnews_c2, gnews_c3, gnews_c4]
  kernel_rfl

theorem gnews_holds : Rows.GuardNewsSaid :=
  OpenClaim.holds_of_cond 13 Tryz.f13 rfl rfl rfl rfl rfl rfl rfl ⟨rfl, rfl, rfl, rfl, rfl⟩ rfl rfl rfl rfl rfl (by kernel_rfl) Tryz.func13 gnews_closed
    (of_decide_eq_true (by kernel_rfl)) (by unfold Func.isWrapper; rw [if_neg (of_decide_eq_false (by kernel_rfl))]; exact ⟨rfl, rfl⟩)
    (fun os started H enc _ F0 => by rw [OpenClaim.pre_eq_preRow]; exact gnews_lifted os started H enc F0)

end Go.Proofs.YtaiakjkdplhooaaGreatDoor
