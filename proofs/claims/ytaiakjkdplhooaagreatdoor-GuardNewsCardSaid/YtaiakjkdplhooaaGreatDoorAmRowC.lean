/- What the rows of the seat share: the two tables. -/
import Derived.Test.YtaiakjkdplhooaaGreatDoorAmSeat
import Derived.Test.YtaiakjkdplhooaaGreatDoorAmRow
import Derived.Test.YtaiakjkdplhooaaGreatDoorTie
import Derived.Test.YtaiakjkdplhooaaGreatDoorCards
import Derived.Lib.LaidIn
import Derived.Lib.LaidU8T
import Derived.Deep.DeepHandedRow
import Derived.Deep.DeepWitnessRowRef
import Derived.ProofKit
import Derived.SizedLaws
import Derived.PinnedBridge
namespace Go.Proofs.YtaiakjkdplhooaaGreatDoor
open Go Go.Shelf
open Go.ChangeShapes Go.WideShapes Go.ChangeAt Go.RowKit Go.Lib

theorem own : ownKnob Tryz.prog.godebug = none := by kernel_rfl

/-- THE WITNESS: the settled world, the two variables holding what their initialisers lay. -/
noncomputable def laidWorld (os : Os) : World :=
  let w0 := World.holding Tryz.prog os ⟨#[], #[], []⟩
  let put (h : Array Obj) (g : Nat) (cs : Array Value) : Array Obj := h.modify g fun
    | .cells _ t frozen => .cells cs t frozen
    | o => o
  let h1 := put w0.heap 0 (Lib.firstTab.map fun z => Value.int .u8 z).toArray
  let h2 := put h1 1 ((List.range 16).flatMap fun i => [Value.int .u8 (Lib.accLo i), Value.int .u8 (Lib.accHi i)]).toArray
  { w0 with heap := h2 }
/-- Where the library's names for the tables' types and variables lie here. -/
def renU8 : Ren := ⟨fun x => x, fun x => if x = 119 then 319 else if x = 138 then 321 else if x = 139 then 322 else x, fun x => if x = 3 then 0 else if x = 4 then 1 else x⟩
theorem u8Types : U8Types Tryz.prog renU8 := ⟨by kernel_rfl, by kernel_rfl, by kernel_rfl, by kernel_rfl⟩

theorem tabs_of {W : World} {l : List (String × DataW Unit)} (hl : l = [("unicode/utf8.acceptRanges", Rows.laid_unicode_utf8_acceptRanges), ("unicode/utf8.first", Rows.laid_unicode_utf8_first)]) (hL : laidMet Tryz.prog l W) : Lib.Utf8Tabs 0 1 W := by
  subst hl
  have e1 : (Rows.laid_unicode_utf8_acceptRanges : DataW Unit) = Lib.acceptData := by kernel_rfl
  have e2 : Rows.laid_unicode_utf8_first = Lib.firstData := Pinned.utf8First_eq
  rw [e1, e2] at hL
  exact utf8Tabs_of_readsT u8Types ⟨by kernel_rfl, by kernel_rfl, by kernel_rfl, by kernel_rfl, by kernel_rfl, by kernel_rfl, by kernel_rfl⟩ (Lib.laidMet.reads hL (.tail _ (.head _))) (Lib.laidMet.reads hL (.head _))

/-- Which cells are known not to change. -/
def G0 (b : Nat) : Nat := if b = 0 then 256 else if b = 1 then 32 else 0

open Go.AM in
theorem glob_rel {W : World} (hT : Lib.Utf8Tabs 0 1 W) (g : Nat) : (SC.glob g).lent = true ∧ RelA SC W G0 [] (SC.glob g) (.pointer (some ⟨g, 0, none⟩)) := by
  by_cases h0 : g = 0
  · subst h0
    refine ⟨rfl, ?_⟩
    have e : SC.glob 0 = .view (((List.range 256).map fun c => (firstT c : Int)).map fun z => .int .u8 z) := by kernel_rfl
    rw [e]
    refine view_bytes (fun j z hj => ?_) (by simp [G0])
    rw [List.getElem?_map] at hj
    obtain ⟨c, hc, rfl⟩ := Option.map_eq_some_iff.1 hj
    have hlt : j < 256 := by simpa using (List.getElem?_eq_some_iff.1 hc).1
    rw [List.getElem?_range hlt] at hc
    cases hc
    exact hT.1 j hlt
  · by_cases h1 : g = 1
    · subst h1
      refine ⟨rfl, ?_⟩
      have e : SC.glob 1 = .view (((List.range 16).flatMap fun i => [(accLo i : Int), (accHi i : Int)]).map fun z => .int .u8 z) := by kernel_rfl
      rw [e]
      refine view_bytes (fun j z hj => ?_) (by decide)
      have hlt : j < 32 := by
        have h2 : j < ((List.range 16).flatMap fun i => [(accLo i : Int), (accHi i : Int)]).length := (List.getElem?_eq_some_iff.1 hj).1
        have e3 : ((List.range 16).flatMap fun i => [(accLo i : Int), (accHi i : Int)]).length = 32 := by decide
        omega
      obtain ⟨k, hk⟩ : ∃ k, j = 2 * k ∨ j = 2 * k + 1 := ⟨j / 2, by omega⟩
      have key : ∀ k, k < 16 → ((List.range 16).flatMap fun i => [(accLo i : Int), (accHi i : Int)])[2 * k]? = some (accLo k : Int) ∧ ((List.range 16).flatMap fun i => [(accLo i : Int), (accHi i : Int)])[2 * k + 1]? = some (accHi k : Int) := by decide
      rcases hk with rfl | rfl
      · rw [(key k (by omega)).1] at hj; cases hj; exact (hT.2 k (by omega)).1
      · rw [(key k (by omega)).2] at hj; cases hj; exact (hT.2 k (by omega)).2
    · have e : SC.glob g = .any := by
        show globOf g = .any
        unfold globOf
        simp [h0, h1]
      rw [e]
      exact ⟨rfl, by simp [RelA]⟩

theorem tabs_size {W : World} (hT : Lib.Utf8Tabs 0 1 W) : 1 < W.heap.size := by
  have h := (hT.2 0 (by omega)).1
  rcases Nat.lt_or_ge 1 W.heap.size with h1 | h1
  · exact h1
  · unfold World.cell? at h
    rw [Array.getElem?_eq_none h1] at h
    cases h

theorem enters {f : Nat} {fn : Func} (hf : Tryz.prog.funcs[f]? = some fn) (hn : (fn.name == "runtime.NumGoroutine") = false) (hb : fn.body.isNone = false) (args : Array Value) (w : World) :
    (callFunc f args).run Tryz.prog w = .ok (.enter f args) w := by
  unfold callFunc
  have hp : (program : Sem Program).run Tryz.prog w = .ok Tryz.prog w := rfl
  rw [Sem.run_bind, hp]
  simp only [Result.andThen_ok, hf, hn, hb, Bool.false_eq_true, if_false, Sem.run_pure]

theorem G0_out {W : World} (hT : Lib.Utf8Tabs 0 1 W) (b : Nat) (hb : W.heap.size ≤ b) : G0 b = 0 := by
  have h2 : 1 < W.heap.size := tabs_size hT
  unfold G0
  rw [if_neg (by omega), if_neg (by omega)]

end Go.Proofs.YtaiakjkdplhooaaGreatDoor
