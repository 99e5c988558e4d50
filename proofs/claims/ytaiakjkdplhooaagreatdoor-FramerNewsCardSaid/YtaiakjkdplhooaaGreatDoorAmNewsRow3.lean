/- FramerNews: the card: it is told of all versions and numbers whether there may be a Framer; conditions: the package variables that the row lists hold what the program's text lays. -/
import Derived.Test.YtaiakjkdplhooaaGreatDoorAmNewsRow2
namespace Go.Proofs.YtaiakjkdplhooaaGreatDoor
open Go Go.Shelf
open Go.ChangeShapes Go.WideShapes Go.ChangeAt Go.RowKit Go.Lib

theorem news_wf : Rows.framerNewsRow.wfByText (OpenSpec.ofChange Rows.framerNewsSpec) = true := by kernel_rfl
theorem news_main : Tryz.prog.mainIs = some (true, "4bf20149527d340b45aa660d3fc47cd4a65d6992e89445315b0b79e6dd859caa".toList) := by kernel_rfl
theorem news_looks : false = Tryz.prog.looks [] := by kernel_rfl
theorem news_goes : false = Rows.framerNewsRow.goesBy Tryz.prog := by kernel_rfl
theorem news_named : Tryz.prog.funcNamed "pouch/pouchlaw10.FramerNews" = some 5 := by kernel_rfl
theorem news_card : Rows.FramerNewsCardSaid :=
  Claim7.holds_tied_plain_at .later [] [.data, .pinned] true (true, "4bf20149527d340b45aa660d3fc47cd4a65d6992e89445315b0b79e6dd859caa") false
    news_holds (fun _ h => by cases h) news_wf (fun _ h => by cases h) framerNews_row_tie rfl ⟨rfl, rfl⟩ news_main rfl
    (fun f fn hf hfn => by
      obtain rfl : f = 5 := Option.some.inj (news_named.symm.trans hf) |>.symm
      obtain rfl : fn = Tryz.f5 := (Option.some.inj (Tryz.func5.symm.trans hfn)).symm
      exact ⟨news_looks, fun j t ht => by
        rw [Tryz.params5] at ht
        have hm : t ∈ [3, 3] := by simpa using Array.mem_of_getElem? ht
        have hall : ([3, 3].all fun u => !Tryz.prog.wantsStandIn u) = true := by kernel_rfl
        exact (show Tryz.prog.wantsStandIn t = false by simpa using List.all_eq_true.1 hall t hm)⟩)
    news_goes

#print axioms news_card

end Go.Proofs.YtaiakjkdplhooaaGreatDoor
