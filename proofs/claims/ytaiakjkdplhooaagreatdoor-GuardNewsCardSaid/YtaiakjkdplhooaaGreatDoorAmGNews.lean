/- GuardNews answers true. -/
import Derived.Test.YtaiakjkdplhooaaGreatDoorAmNews
namespace Go.AM
open Go


theorem told14 : isTrue0 (acall SC 60 31 [] []) = true := by kernel_rfl

theorem told14_does (h : H) : FnDoes SC 31 [] h (.pv (.bool true)) h := by
  have h0 := (call_sound SC_ctx SC_glob SC_ext 60 _ _ _ _ _ _ (isTrue0_spec told14)).1
  exact fnDoes_frame h0 rfl SC_glob rfl rfl h

noncomputable def call14 : ACall := fun k av h => if k = 31 then (match av with | [] => some (.pv (.bool true), h, []) | _ => none) else acall SC 60 k av h

theorem call14_ok : CallOk SC call14 := by
  intro k av h r h' L hx
  unfold call14 at hx
  split at hx
  · rename_i hk
    subst hk
    split at hx
    · simp only [Option.some.injEq, Prod.mk.injEq] at hx
      obtain ⟨rfl, rfl, rfl⟩ := hx
      exact ⟨told14_does h, Keeps.refl _ _⟩
    · cases hx
  · exact call_sound SC_ctx SC_glob SC_ext 60 _ _ _ _ _ _ hx

end Go.AM
