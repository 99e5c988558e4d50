/- FramerNews answers true. -/
import Derived.Test.YtaiakjkdplhooaaGreatDoorAmSeat
namespace Go.AM
open Go

def isTrue0 : Option (AV × H × List Nat) → Bool
  | some (.pv (.bool b), [], []) => b
  | _ => false

theorem isTrue0_spec {x : Option (AV × H × List Nat)} (h : isTrue0 x = true) : x = some (.pv (.bool true), [], []) := by
  unfold isTrue0 at h
  split at h
  · rw [h]
  · cases h

theorem told10 : isTrue0 (acall SC 60 17 [] []) = true := by kernel_rfl

theorem told10_does (h : H) : FnDoes SC 17 [] h (.pv (.bool true)) h := by
  have h0 := (call_sound SC_ctx SC_glob SC_ext 60 _ _ _ _ _ _ (isTrue0_spec told10)).1
  exact fnDoes_frame h0 rfl SC_glob rfl rfl h

noncomputable def call10 : ACall := fun k av h => if k = 17 then (match av with | [] => some (.pv (.bool true), h, []) | _ => none) else acall SC 60 k av h

theorem call10_ok : CallOk SC call10 := by
  intro k av h r h' L hx
  unfold call10 at hx
  split at hx
  · rename_i hk
    subst hk
    split at hx
    · simp only [Option.some.injEq, Prod.mk.injEq] at hx
      obtain ⟨rfl, rfl, rfl⟩ := hx
      exact ⟨told10_does h, Keeps.refl _ _⟩
    · cases hx
  · exact call_sound SC_ctx SC_glob SC_ext 60 _ _ _ _ _ _ hx

end Go.AM
