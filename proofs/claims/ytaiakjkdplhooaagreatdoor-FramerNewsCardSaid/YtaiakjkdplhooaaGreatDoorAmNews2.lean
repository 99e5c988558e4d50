/- FramerNews answers true at every version and number. -/
import Derived.Test.YtaiakjkdplhooaaGreatDoorAmNews
namespace Go.AM
open Go

noncomputable abbrev newsAt (n m : Int) : Bool := isTrue0 (abody SC call10 60 5 [.pv (.int .i64 n), .pv (.int .i64 m)] [])

theorem news_m (n : Int) (h0 : newsAt n (Int.ofNat 0) = true) (h1 : newsAt n (Int.ofNat 1) = true) (h2 : ∀ k, newsAt n (Int.ofNat (k + 2)) = true) (h3 : ∀ k, newsAt n (Int.negSucc k) = true) : ∀ m, newsAt n m = true
  | .ofNat 0 => h0
  | .ofNat 1 => h1
  | .ofNat (k + 2) => h2 k
  | .negSucc k => h3 k

theorem news_0 : ∀ m, newsAt (Int.ofNat 0) m = true := news_m _ (by kernel_rfl) (by kernel_rfl) (fun k => by kernel_rfl) (fun k => by kernel_rfl)
theorem news_1 : ∀ m, newsAt (Int.ofNat 1) m = true := news_m _ (by kernel_rfl) (by kernel_rfl) (fun k => by kernel_rfl) (fun k => by kernel_rfl)
theorem news_2 : ∀ m, newsAt (Int.ofNat 2) m = true := news_m _ (by kernel_rfl) (by kernel_rfl) (fun k => by kernel_rfl) (fun k => by kernel_rfl)
theorem news_3 : ∀ m, newsAt (Int.ofNat 3) m = true := news_m _ (by kernel_rfl) (by kernel_rfl) (fun k => by kernel_rfl) (fun k => by kernel_rfl)
theorem news_4 : ∀ m, newsAt (Int.ofNat 4) m = true := news_m _ (by kernel_rfl) (by kernel_rfl) (fun k => by kernel_rfl) (fun k => by kernel_rfl)
theorem news_5 : ∀ m, newsAt (Int.ofNat 5) m = true := news_m _ (by kernel_rfl) (by kernel_rfl) (fun k => by kernel_rfl) (fun k => by kernel_rfl)
theorem news_6 (j : Nat) : ∀ m, newsAt (Int.ofNat (j + 6)) m = true := news_m _ (by kernel_rfl) (by kernel_rfl) (fun k => by kernel_rfl) (fun k => by kernel_rfl)
theorem news_n (j : Nat) : ∀ m, newsAt (Int.negSucc j) m = true := news_m _ (by kernel_rfl) (by kernel_rfl) (fun k => by kernel_rfl) (fun k => by kernel_rfl)

theorem news_all : ∀ (n m : Int), newsAt n m = true
  | .ofNat 0, m => news_0 m
  | .ofNat 1, m => news_1 m
  | .ofNat 2, m => news_2 m
  | .ofNat 3, m => news_3 m
  | .ofNat 4, m => news_4 m
  | .ofNat 5, m => news_5 m
  | .ofNat (j + 6), m => news_6 j m
  | .negSucc j, m => news_n j m

theorem news_does (n m : Int) : FnDoes SC 5 [.pv (.int .i64 n), .pv (.int .i64 m)] [] (.pv (.bool true)) [] :=
  body_sound SC_ctx SC_glob call10_ok (isTrue0_spec (news_all n m))

end Go.AM
