/- GuardNews: the card: it is told of all versions and numbers whether there may be a Guard; of one that isn't there nothing is told; conditions: the package variables that the row lists hold what the program's text lays. -/
import Derived.Test.YtaiakjkdplhooaaGreatDoorAmGnewsRow2
namespace Go.Proofs.YtaiakjkdplhooaaGreatDoor
open Go Go.Shelf
open Go.ChangeShapes Go.WideShapes Go.ChangeAt Go.RowKit Go.Lib

theorem gnews_wf : Rows.guardNewsRow.wfByText (OpenSpec.ofChange Rows.guardNewsSpec) = true := by kernel_rfl
theorem gnews_main : Tryz.prog.mainIs = some (true, "4bf20149527d340b45aa660d3fc47cd4a65d6992e89445315b0b79e6dd859caa".toList) := by kernel_rfl
theorem gnews_looks : false = Tryz.prog.looks [] := by kernel_rfl
theorem gnews_goes : false = Rows.guardNewsRow.goesBy Tryz.prog := by kernel_rfl
theorem gnews_named : Tryz.prog.funcNamed "pouch/pouchlaw14.GuardNews" = some 13 := by kernel_rfl
theorem gnews_card : Rows.GuardNewsCardSaid :=
  Claim7.holds_tied_plain_at .later [] [.data, .pinned] true (true, "4bf20149527d340b45aa660d3fc47cd4a65d6992e89445315b0b79e6dd859caa") false
    gnews_holds (fun _ h => by cases h) gnews_wf (fun _ h => by cases h) guardNews_row_tie rfl ⟨rfl, rfl⟩ gnews_main rfl
    (fun f fn hf hfn => by
      obtain rfl : f = 13 := Option.some.inj (gnews_named.symm.trans hf) |>.symm
      obtain rfl : fn = Tryz.f13 := (Option.some.inj (Tryz.func13.symm.trans hfn)).symm
      exact ⟨gnews_looks, fun j t ht => by
        rw [Tryz.params13] at ht
        have hm : t ∈ [3, 3] := by simpa using Array.mem_of_getElem? ht
        have hall : ([3, 3].all fun u => !Tryz.prog.wantsStandIn u) = true := by kernel_rfl
        exact (show Tryz.prog.wantsStandIn t = false by simpa using List.all_eq_true.1 hall t hm)⟩)
    gnews_goes

#print axioms gnews_card

end Go.Proofs.YtaiakjkdplhooaaGreatDoor
