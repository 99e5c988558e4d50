/- FramerNews: the row. -/
import Derived.Test.YtaiakjkdplhooaaGreatDoorAmNews2
import Derived.Test.YtaiakjkdplhooaaGreatDoorAmRow
import Derived.Test.YtaiakjkdplhooaaGreatDoorTie
import Derived.Test.YtaiakjkdplhooaaGreatDoorCards
import Derived.Lib.LaidIn
import Derived.Lib.LaidU8T
import Derived.Deep.DeepHandedRow
import Derived.Deep.DeepWitnessRowRef
import Derived.ProofKit
import Derived.SizedLaws
import Derived.PinnedBridge
namespace Go.Proofs.YtaiakjkdplhooaaGreatDoor
open Go Go.Shelf
open Go.ChangeShapes Go.WideShapes Go.ChangeAt Go.RowKit Go.Lib

theorem own : ownKnob Tryz.prog.godebug = none := by kernel_rfl

/-- THE WITNESS: the settled world, the two variables holding what their initialisers lay. -/
noncomputable def laidWorld (os : Os) : World :=
  let w0 := World.holding Tryz.prog os ⟨#[], #[], []⟩
  let put (h : Array Obj) (g : Nat) (cs : Array Value) : Array Obj := h.modify g fun
    | .cells _ t frozen => .cells cs t frozen
    | o => o
  let h1 := put w0.heap 0 (Lib.firstTab.map fun z => Value.int .u8 z).toArray
  let h2 := put h1 1 ((List.range 16).flatMap fun i => [Value.int .u8 (Lib.accLo i), Value.int .u8 (Lib.accHi i)]).toArray
  { w0 with heap := h2 }
theorem laid_met (os : Os) (args : Array Value) : laidMet Tryz.prog Rows.framerNewsRow.laid ((laidWorld os).forCall (fun _ _ => 0) ⟨#[], args, []⟩).memory :=
  (LaidIn.of_run (l := Rows.framerNewsRow.laid) [1, 0] 8 (by kernel_rfl) (by kernel_rfl) (by kernel_rfl) (by kernel_rfl)).met

theorem witness_row (os : Os) {H : Type} (enc : TypeId × Value → H) :
    (OpenSpec.ofChange Rows.framerNewsSpec).preRow enc Tryz.prog Tryz.f5 Rows.framerNewsRow.domain false Rows.framerNewsRow.laid ((laidWorld os).forCall (fun _ _ => 0) ⟨#[], #[.int .i64 0, .int .i64 0], []⟩).memory #[.int .i64 0, .int .i64 0] := by
  have hw : (DataW.whole enc Tryz.prog ((laidWorld os).forCall (fun _ _ => 0) ⟨#[], #[.int .i64 0, .int .i64 0], []⟩).memory Tryz.f5.params.toList (OpenSpec.ofChange Rows.framerNewsSpec).vars false #[Value.int .i64 0, Value.int .i64 0].toList 8).map (fun x => (x.1, x.2.1)) =
      some ([.lit (.int .i64 0), .lit (.int .i64 0)], []) := by kernel_rfl
  obtain ⟨⟨x1, x2, x3⟩, hx, hx1⟩ := Option.map_eq_some_iff.1 hw
  simp only [Prod.mk.injEq] at hx1
  obtain ⟨rfl, rfl⟩ := hx1
  exact OpenSpec.preRow_of_cond 8 hx (by kernel_rfl) (fun k hk => by cases hk) (by kernel_rfl) (laid_met os _)

/-- Where the library's names for the tables' types and variables lie here. -/
def renU8 : Ren := ⟨fun x => x, fun x => if x = 119 then 319 else if x = 138 then 321 else if x = 139 then 322 else x, fun x => if x = 3 then 0 else if x = 4 then 1 else x⟩
theorem u8Types : U8Types Tryz.prog renU8 := ⟨by kernel_rfl, by kernel_rfl, by kernel_rfl, by kernel_rfl⟩

theorem tabs_of {W : World} {l : List (String × DataW Unit)} (hl : l = [("unicode/utf8.acceptRanges", Rows.laid_unicode_utf8_acceptRanges), ("unicode/utf8.first", Rows.laid_unicode_utf8_first)]) (hL : laidMet Tryz.prog l W) : Lib.Utf8Tabs 0 1 W := by
  subst hl
  have e1 : (Rows.laid_unicode_utf8_acceptRanges : DataW Unit) = Lib.acceptData := by kernel_rfl
  have e2 : Rows.laid_unicode_utf8_first = Lib.firstData := Pinned.utf8First_eq
  rw [e1, e2] at hL
  exact utf8Tabs_of_readsT u8Types ⟨by kernel_rfl, by kernel_rfl, by kernel_rfl, by kernel_rfl, by kernel_rfl, by kernel_rfl, by kernel_rfl⟩ (Lib.laidMet.reads hL (.tail _ (.head _))) (Lib.laidMet.reads hL (.head _))

/-- Which cells are known not to change. -/
def G0 (b : Nat) : Nat := if b = 0 then 256 else if b = 1 then 32 else 0

open Go.AM in
theorem glob_rel {W : World} (hT : Lib.Utf8Tabs 0 1 W) (g : Nat) : (SC.glob g).lent = true ∧ RelA SC W G0 [] (SC.glob g) (.pointer (some ⟨g, 0, none⟩)) := by
  by_cases h0 : g = 0
  · subst h0
    refine ⟨rfl, ?_⟩
    have e : SC.glob 0 = .view (((List.range 256).map fun c => (firstT c : Int)).map fun z => .int .u8 z) := by kernel_rfl
    rw [e]
    refine view_bytes (fun j z hj => ?_) (by simp [G0])
    rw [List.getElem?_map] at hj
    obtain ⟨c, hc, rfl⟩ := Option.map_eq_some_iff.1 hj
    have hlt : j < 256 := by simpa using (List.getElem?_eq_some_iff.1 hc).1
    rw [List.getElem?_range hlt] at hc
    cases hc
    exact hT.1 j hlt
  · by_cases h1 : g = 1
    · subst h1
      refine ⟨rfl, ?_⟩
      have e : SC.glob 1 = .view (((List.range 16).flatMap fun i => [(accLo i : Int), (accHi i : Int)]).map fun z => .int .u8 z) := by kernel_rfl
      rw [e]
      refine view_bytes (fun j z hj => ?_) (by decide)
      have hlt : j < 32 := by
        have h2 : j < ((List.range 16).flatMap fun i => [(accLo i : Int), (accHi i : Int)]).length := (List.getElem?_eq_some_iff.1 hj).1
        have e3 : ((List.range 16).flatMap fun i => [(accLo i : Int), (accHi i : Int)]).length = 32 := by decide
        omega
      obtain ⟨k, hk⟩ : ∃ k, j = 2 * k ∨ j = 2 * k + 1 := ⟨j / 2, by omega⟩
      have key : ∀ k, k < 16 → ((List.range 16).flatMap fun i => [(accLo i : Int), (accHi i : Int)])[2 * k]? = some (accLo k : Int) ∧ ((List.range 16).flatMap fun i => [(accLo i : Int), (accHi i : Int)])[2 * k + 1]? = some (accHi k : Int) := by decide
      rcases hk with rfl | rfl
      · rw [(key k (by omega)).1] at hj; cases hj; exact (hT.2 k (by omega)).1
      · rw [(key k (by omega)).2] at hj; cases hj; exact (hT.2 k (by omega)).2
    · have e : SC.glob g = .any := by
        show globOf g = .any
        unfold globOf
        simp [h0, h1]
      rw [e]
      exact ⟨rfl, by simp [RelA]⟩

theorem tabs_size {W : World} (hT : Lib.Utf8Tabs 0 1 W) : 1 < W.heap.size := by
  have h := (hT.2 0 (by omega)).1
  rcases Nat.lt_or_ge 1 W.heap.size with h1 | h1
  · exact h1
  · unfold World.cell? at h
    rw [Array.getElem?_eq_none h1] at h
    cases h

theorem enters (n m : Int) (w : World) : (callFunc 5 [Value.int .i64 n, Value.int .i64 m].toArray).run Tryz.prog w = .ok (.enter 5 [Value.int .i64 n, Value.int .i64 m].toArray) w := by
  unfold callFunc
  have hp : (program : Sem Program).run Tryz.prog w = .ok Tryz.prog w := rfl
  rw [Sem.run_bind, hp]
  have hn : (Tryz.f5.name == "runtime.NumGoroutine") = false := by kernel_rfl
  have hb : Tryz.f5.body.isNone = false := by kernel_rfl
  simp only [Result.andThen_ok, Tryz.func5, hn, hb, Bool.false_eq_true, if_false, Sem.run_pure]

set_option maxRecDepth 100000 in
set_option maxHeartbeats 2000000 in
theorem news_lifted (os : Os) (started : os.Started) (H : Type) (enc : TypeId × Value → H) (F : Stop.Interp) :
    ReturnsInHanded Rows.framerNewsRow.assume Tryz.checked os 5 .any ((OpenSpec.ofChange Rows.framerNewsSpec).preRow enc Tryz.prog Tryz.f5 Rows.framerNewsRow.domain false Rows.framerNewsRow.laid)
      (((OpenSpec.ofChange Rows.framerNewsSpec).at F).post enc Tryz.prog Tryz.f5 Rows.framerNewsRow.apart Rows.framerNewsRow.fresh Rows.framerNewsRow.handsOn Rows.framerNewsRow.again) := by
  refine returnsInHanded_of_row (C := Tryz.checked) (s := OpenSpec.ofChange Rows.framerNewsSpec) own started (by kernel_rfl) Tryz.func5
    (witness_row_atRef (enc := enc) (C := Tryz.checked) false (laidWorld os) #[.int .i64 0, .int .i64 0] rfl (by kernel_rfl) (by kernel_rfl) (by kernel_rfl) (witness_row os enc)) ?_
  intro W base args ds gs before hval0 hW _ _ _ hL _ _
  have hval : ∀ (j : Nat) t v, Tryz.f5.params[j]? = some t → args[j]? = some v → Value.okWide Tryz.prog W .any base t v := hval0
  have hW' := hW
  obtain ⟨p, q, hA0, hV0, rfl, _, _⟩ := hW
  have hA : DataW.TrodAll enc Tryz.prog W 0 (fun _ => true) true Tryz.f5.params.toList args.toList ds p := hA0
  rw [Tryz.params5] at hA hval
  obtain ⟨v0, v1, d0, d1, p0, p1, rfl, rfl, rfl, h0, h1⟩ := trodAll_two hA
  obtain ⟨rfl, rfl⟩ := trodVars_none hV0
  obtain ⟨n, rfl, rfl, rfl, w0⟩ := open_int Tryz.underlying3 (hval 0 3 v0 rfl rfl) h0
  obtain ⟨m, rfl, rfl, rfl, w1⟩ := open_int Tryz.underlying3 (hval 1 3 v1 rfl rfl) h1
  clear hA0 hV0 hval0
  have hT := tabs_of rfl hL
  have I : AM.Inv AM.SC W G0 [] [.pv (.int .i64 n), .pv (.int .i64 m)] [.int .i64 n, .int .i64 m] [] := by
    refine AM.inv0 rfl (fun a ha => by simp at ha; rcases ha with rfl | rfl <;> rfl) (fun i a v ha hv => ?_) (fun b hb => ?_) (glob_rel hT)
    · match i with
      | 0 => simp at ha hv; subst ha hv; simp [AM.RelA, AM.RelP]
      | 1 => simp at ha hv; subst ha hv; simp [AM.RelA, AM.RelP]
      | i + 2 => simp at ha
    · have h2 : 1 < W.heap.size := tabs_size hT
      unfold G0
      rw [if_neg (by omega), if_neg (by omega)]
  refine (AM.calls_of_does (AM.news_does n m) I (fun a ha => by simp at ha; rcases ha with rfl | rfl <;> rfl) (enters n m)).mono ?_
  rintro e W' ⟨v, G', ρ', rfl, hv, hK⟩
  simp only [AM.RelA, AM.RelP] at hv
  subst hv
  refine ⟨_, rfl, _, _, _, [], [], [], hW', ?_, ?_, ?_, hK.kept _, fun h => by cases h⟩
  · exact trodAll_mk1 (shut_bool Tryz.underlying4 _)
  · exact trodAll_mk2 (shut_int Tryz.underlying3 w0) (shut_int Tryz.underlying3 w1)
  · rfl

end Go.Proofs.YtaiakjkdplhooaaGreatDoor
