/- FramerNews: the card. -/
import Derived.Test.YtaiakjkdplhooaaGreatDoorAmNewsRow1
namespace Go.Proofs.YtaiakjkdplhooaaGreatDoor
open Go Go.Shelf
open Go.ChangeShapes Go.WideShapes Go.ChangeAt Go.RowKit Go.Lib

theorem news_c1 : (Rows.framerNewsRow.inPlace == Tryz.prog.inPlace 5) = true := by kernel_rfl
theorem news_c2 : (Rows.framerNewsRow.unfollowed == Tryz.prog.unfollowed 5) = true := by kernel_rfl
theorem news_c3 : (Rows.framerNewsRow.recurses == Tryz.prog.recurses 5) = true := by kernel_rfl
theorem news_c4 : (Rows.framerNewsRow.named == Tryz.prog.varsNamed 5) = true := by kernel_rfl
theorem news_closed : joinedFacts Tryz.prog 5 Tryz.f5 (OpenSpec.ofChange Rows.framerNewsSpec).bare Rows.framerNewsRow = true := by
  unfold joinedFacts
  rw [news_c1, news_c2, news_c3, news_c4]
  kernel_rfl

theorem news_holds : Rows.FramerNewsSaid :=
  OpenClaim.holds_of_cond 5 Tryz.f5 rfl rfl rfl rfl rfl rfl rfl ⟨rfl, rfl, rfl, rfl, rfl⟩ rfl rfl rfl rfl rfl (by kernel_rfl) Tryz.func5 news_closed
    (of_decide_eq_true (by kernel_rfl)) (by unfold Func.isWrapper; rw [if_neg (of_decide_eq_false (by kernel_rfl))]; exact ⟨rfl, rfl⟩)
    (fun os started H enc _ F0 => by rw [OpenClaim.pre_eq_preRow]; exact news_lifted os started H enc F0)

end Go.Proofs.YtaiakjkdplhooaaGreatDoor
