/- GuardNews answers true at every version and number. -/
import Derived.Test.YtaiakjkdplhooaaGreatDoorAmGNews
namespace Go.AM
open Go

noncomputable abbrev gnewsAt (n m : Int) : Bool := isTrue0 (abody SC call14 60 13 [.pv (.int .i64 n), .pv (.int .i64 m)] [])

theorem gnews_m (n : Int) (h0 : gnewsAt n (Int.ofNat 0) = true) (h1 : gnewsAt n (Int.ofNat 1) = true) (h2 : ∀ k, gnewsAt n (Int.ofNat (k + 2)) = true) (h3 : ∀ k, gnewsAt n (Int.negSucc k) = true) : ∀ m, gnewsAt n m = true
  | .ofNat 0 => h0
  | .ofNat 1 => h1
  | .ofNat (k + 2) => h2 k
  | .negSucc k => h3 k

theorem gnews_0 : ∀ m, gnewsAt (Int.ofNat 0) m = true := gnews_m _ (by kernel_rfl) (by kernel_rfl) (fun k => by kernel_rfl) (fun k => by kernel_rfl)
theorem gnews_1 : ∀ m, gnewsAt (Int.ofNat 1) m = true := gnews_m _ (by kernel_rfl) (by kernel_rfl) (fun k => by kernel_rfl) (fun k => by kernel_rfl)
theorem gnews_2 : ∀ m, gnewsAt (Int.ofNat 2) m = true := gnews_m _ (by kernel_rfl) (by kernel_rfl) (fun k => by kernel_rfl) (fun k => by kernel_rfl)
theorem gnews_3 : ∀ m, gnewsAt (Int.ofNat 3) m = true := gnews_m _ (by kernel_rfl) (by kernel_rfl) (fun k => by kernel_rfl) (fun k => by kernel_rfl)
theorem gnews_4 : ∀ m, gnewsAt (Int.ofNat 4) m = true := gnews_m _ (by kernel_rfl) (by kernel_rfl) (fun k => by kernel_rfl) (fun k => by kernel_rfl)
theorem gnews_5 : ∀ m, gnewsAt (Int.ofNat 5) m = true := gnews_m _ (by kernel_rfl) (by kernel_rfl) (fun k => by kernel_rfl) (fun k => by kernel_rfl)
theorem gnews_6 (j : Nat) : ∀ m, gnewsAt (Int.ofNat (j + 6)) m = true := gnews_m _ (by kernel_rfl) (by kernel_rfl) (fun k => by kernel_rfl) (fun k => by kernel_rfl)
theorem gnews_n (j : Nat) : ∀ m, gnewsAt (Int.negSucc j) m = true := gnews_m _ (by kernel_rfl) (by kernel_rfl) (fun k => by kernel_rfl) (fun k => by kernel_rfl)

theorem gnews_all : ∀ (n m : Int), gnewsAt n m = true
  | .ofNat 0, m => gnews_0 m
  | .ofNat 1, m => gnews_1 m
  | .ofNat 2, m => gnews_2 m
  | .ofNat 3, m => gnews_3 m
  | .ofNat 4, m => gnews_4 m
  | .ofNat 5, m => gnews_5 m
  | .ofNat (j + 6), m => gnews_6 j m
  | .negSucc j, m => gnews_n j m

theorem gnews_does (n m : Int) : FnDoes SC 13 [.pv (.int .i64 n), .pv (.int .i64 m)] [] (.pv (.bool true)) [] :=
  body_sound SC_ctx SC_glob call14_ok (isTrue0_spec (gnews_all n m))

end Go.AM
