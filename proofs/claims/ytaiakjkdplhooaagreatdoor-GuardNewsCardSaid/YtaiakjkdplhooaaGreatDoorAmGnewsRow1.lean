/- GuardNews: the row. -/
import Derived.Test.YtaiakjkdplhooaaGreatDoorAmGNews2
import Derived.Test.YtaiakjkdplhooaaGreatDoorAmRowC
namespace Go.Proofs.YtaiakjkdplhooaaGreatDoor
open Go Go.Shelf
open Go.ChangeShapes Go.WideShapes Go.ChangeAt Go.RowKit Go.Lib

theorem gnews_met (os : Os) (args : Array Value) : laidMet Tryz.prog Rows.guardNewsRow.laid ((laidWorld os).forCall (fun _ _ => 0) ⟨#[], args, []⟩).memory :=
  (LaidIn.of_run (l := Rows.guardNewsRow.laid) [1, 0] 8 (by kernel_rfl) (by kernel_rfl) (by kernel_rfl) (by kernel_rfl)).met

theorem gnews_wit (os : Os) {H : Type} (enc : TypeId × Value → H) :
    (OpenSpec.ofChange Rows.guardNewsSpec).preRow enc Tryz.prog Tryz.f13 Rows.guardNewsRow.domain false Rows.guardNewsRow.laid ((laidWorld os).forCall (fun _ _ => 0) ⟨#[], #[.int .i64 0, .int .i64 0], []⟩).memory #[.int .i64 0, .int .i64 0] := by
  have hw : (DataW.whole enc Tryz.prog ((laidWorld os).forCall (fun _ _ => 0) ⟨#[], #[.int .i64 0, .int .i64 0], []⟩).memory Tryz.f13.params.toList (OpenSpec.ofChange Rows.guardNewsSpec).vars false #[Value.int .i64 0, Value.int .i64 0].toList 8).map (fun x => (x.1, x.2.1)) =
      some ([.lit (.int .i64 0), .lit (.int .i64 0)], []) := by kernel_rfl
  obtain ⟨⟨x1, x2, x3⟩, hx, hx1⟩ := Option.map_eq_some_iff.1 hw
  simp only [Prod.mk.injEq] at hx1
  obtain ⟨rfl, rfl⟩ := hx1
  exact OpenSpec.preRow_of_cond 8 hx (by kernel_rfl) (fun k hk => by cases hk) (by kernel_rfl) (gnews_met os _)

set_option maxRecDepth 100000 in
set_option maxHeartbeats 2000000 in
theorem gnews_lifted (os : Os) (started : os.Started) (H : Type) (enc : TypeId × Value → H) (F : Stop.Interp) :
    ReturnsInHanded Rows.guardNewsRow.assume Tryz.checked os 13 .any ((OpenSpec.ofChange Rows.guardNewsSpec).preRow enc Tryz.prog Tryz.f13 Rows.guardNewsRow.domain false Rows.guardNewsRow.laid)
      (((OpenSpec.ofChange Rows.guardNewsSpec).at F).post enc Tryz.prog Tryz.f13 Rows.guardNewsRow.apart Rows.guardNewsRow.fresh Rows.guardNewsRow.handsOn Rows.guardNewsRow.again) := by
  refine returnsInHanded_of_row (C := Tryz.checked) (s := OpenSpec.ofChange Rows.guardNewsSpec) own started (by kernel_rfl) Tryz.func13
    (witness_row_atRef (enc := enc) (C := Tryz.checked) false (laidWorld os) #[.int .i64 0, .int .i64 0] rfl (by kernel_rfl) (by kernel_rfl) (by kernel_rfl) (gnews_wit os enc)) ?_
  intro W base args ds gs before hval0 hW _ _ _ hL _ _
  have hval : ∀ (j : Nat) t v, Tryz.f13.params[j]? = some t → args[j]? = some v → Value.okWide Tryz.prog W .any base t v := hval0
  have hW' := hW
  obtain ⟨p, q, hA0, hV0, rfl, _, _⟩ := hW
  have hA : DataW.TrodAll enc Tryz.prog W 0 (fun _ => true) true Tryz.f13.params.toList args.toList ds p := hA0
  rw [Tryz.params13] at hA hval
  obtain ⟨v0, v1, d0, d1, p0, p1, rfl, rfl, rfl, h0, h1⟩ := trodAll_two hA
  obtain ⟨rfl, rfl⟩ := trodVars_none hV0
  obtain ⟨n, rfl, rfl, rfl, w0⟩ := open_int Tryz.underlying3 (hval 0 3 v0 rfl rfl) h0
  obtain ⟨m, rfl, rfl, rfl, w1⟩ := open_int Tryz.underlying3 (hval 1 3 v1 rfl rfl) h1
  clear hA0 hV0 hval0
  have hT := tabs_of rfl hL
  have I : AM.Inv AM.SC W G0 [] [.pv (.int .i64 n), .pv (.int .i64 m)] [.int .i64 n, .int .i64 m] [] := by
    refine AM.inv0 rfl (fun a ha => by simp at ha; rcases ha with rfl | rfl <;> rfl) (fun i a v ha hv => ?_) (fun b hb => ?_) (glob_rel hT)
    · match i with
      | 0 => simp at ha hv; subst ha hv; simp [AM.RelA, AM.RelP]
      | 1 => simp at ha hv; subst ha hv; simp [AM.RelA, AM.RelP]
      | i + 2 => simp at ha
    · exact G0_out hT b hb
  refine (AM.calls_of_does (AM.gnews_does n m) I (fun a ha => by simp at ha; rcases ha with rfl | rfl <;> rfl) (enters Tryz.func13 (by kernel_rfl) (by kernel_rfl) _)).mono ?_
  rintro e W' ⟨v, G', ρ', rfl, hv, hK⟩
  simp only [AM.RelA, AM.RelP] at hv
  subst hv
  refine ⟨_, rfl, _, _, _, [], [], [], hW', ?_, ?_, ?_, hK.kept _, fun h => by cases h⟩
  · exact trodAll_mk1 (shut_bool Tryz.underlying4 _)
  · exact trodAll_mk2 (shut_int Tryz.underlying3 w0) (shut_int Tryz.underlying3 w1)
  · rfl

end Go.Proofs.YtaiakjkdplhooaaGreatDoor
