/- A callee sees only the variables that it can reach, numbered anew: its answer there is its answer among all others. -/
import Derived.Test.YtaiakjkdplhooaaGreatDoorAmBody
namespace Go.AM
open Go

mutual
def ptrs : AV → List Nat
  | .ptr o _ => [o]
  | .agg cs => ptrsL cs
  | .tup cs => ptrsL cs
  | .fn _ cs => ptrsL cs
  | .iface _ v => ptrs v
  | _ => []
def ptrsL : List AV → List Nat
  | [] => []
  | a :: r => ptrs a ++ ptrsL r
end

mutual
def ren (σ : Nat → Nat) : AV → AV
  | .ptr o f => .ptr (σ o) f
  | .agg cs => .agg (rens σ cs)
  | .tup cs => .tup (rens σ cs)
  | .fn f cs => .fn f (rens σ cs)
  | .iface t v => .iface t (ren σ v)
  | a => a
def rens (σ : Nat → Nat) : List AV → List AV
  | [] => []
  | a :: r => ren σ a :: rens σ r
end

theorem rens_map (σ : Nat → Nat) : ∀ l, rens σ l = l.map (ren σ)
  | [] => rfl
  | a :: r => by simp [rens, rens_map σ r]

theorem lent_ren (σ : Nat → Nat) (a : AV) : (ren σ a).lent = a.lent := by
  cases a with
  | own t l => cases t <;> rfl
  | _ => rfl

theorem ub_ren (σ : Nat → Nat) (a : AV) (v : Value) : ub (ren σ a) v = ub a v := by
  cases a with
  | own t l => cases t <;> rfl
  | _ => rfl

section
variable {C : Ctx} {w w' : World} {G G' : Nat → Nat} {ρ ρ' : List Nat}

mutual
theorem relA_ren {σ : Nat → Nat} : ∀ (a : AV) (v : Value), (∀ o ∈ ptrs a, ∀ b, ρ[o]? = some b → ρ'[σ o]? = some b) → RelA C w G ρ a v → RelA C w G ρ' (ren σ a) v
  | .any, _, _, _ => by simp [RelA, ren]
  | .pv p, v, _, h => by simpa only [RelA, ren] using h
  | .own none l, v, _, h => by simpa only [RelA, ren] using h
  | .own (some t) l, v, _, h => by simpa only [RelA, ren] using h
  | .agg cs, v, hk, h => by
    simp only [ptrs] at hk
    simp only [RelA, ren] at h ⊢
    obtain ⟨vs, e, h1, h2⟩ := h
    exact ⟨vs, e, h1, relAs_ren cs vs hk h2⟩
  | .tup cs, v, hk, h => by
    simp only [ptrs] at hk
    simp only [RelA, ren] at h ⊢
    obtain ⟨vs, e, h2⟩ := h
    exact ⟨vs, e, relAs_ren cs vs hk h2⟩
  | .ptr o off, v, hk, h => by
    simp only [ptrs] at hk
    simp only [RelA, ren] at h ⊢
    obtain ⟨b, hb, e⟩ := h
    exact ⟨b, hk o (by simp) b hb, e⟩
  | .nilp, _, _, h => by simpa only [RelA, ren] using h
  | .view cs, v, _, h => by simpa only [RelA, ren] using h
  | .fn f caps, v, hk, h => by
    simp only [ptrs] at hk
    simp only [RelA, ren] at h ⊢
    obtain ⟨vs, e, h2⟩ := h
    exact ⟨vs, e, relAs_ren caps vs hk h2⟩
  | .nilfn, _, _, h => by simpa only [RelA, ren] using h
  | .nili, _, _, h => by simpa only [RelA, ren] using h
  | .iface t a, v, hk, h => by
    simp only [ptrs] at hk
    simp only [RelA, ren] at h ⊢
    obtain ⟨u, e, hl, h2⟩ := h
    exact ⟨u, e, by rw [lent_ren]; exact hl, relA_ren a u hk h2⟩
theorem relAs_ren {σ : Nat → Nat} : ∀ (cs : List AV) (vs : List Value), (∀ o ∈ ptrsL cs, ∀ b, ρ[o]? = some b → ρ'[σ o]? = some b) → RelAs C w G ρ cs vs → RelAs C w G ρ' (rens σ cs) vs
  | [], _, _, h => by simpa only [RelAs, rens] using h
  | a :: r, vs, hk, h => by
    simp only [ptrsL, List.mem_append] at hk
    simp only [RelAs, rens] at h ⊢
    obtain ⟨v, s, e, hl, h1, h2⟩ := h
    exact ⟨v, s, e, by rw [lent_ren]; exact hl, relA_ren a v (fun o ho => hk o (.inl ho)) h1, relAs_ren r s (fun o ho => hk o (.inr ho)) h2⟩
end

mutual
theorem ptrs_ok {n : Nat} : ∀ (a : AV), (∀ o ∈ ptrs a, o < n) ↔ okA n a = true
  | .any | .pv _ | .own _ _ | .nilp | .view _ | .nilfn | .nili => by simp [ptrs, okA]
  | .agg cs | .tup cs | .fn _ cs => by simp only [ptrs, okA]; exact ptrsL_ok cs
  | .ptr o f => by simp [ptrs, okA]
  | .iface t v => by simp only [ptrs, okA]; exact ptrs_ok v
theorem ptrsL_ok {n : Nat} : ∀ (l : List AV), (∀ o ∈ ptrsL l, o < n) ↔ okAs n l = true
  | [] => by simp [ptrsL, okAs]
  | a :: r => by
    simp only [ptrsL, okAs, List.mem_append, Bool.and_eq_true]
    rw [← ptrs_ok a, ← ptrsL_ok r]
    exact ⟨fun h => ⟨fun o ho => h o (.inl ho), fun o ho => h o (.inr ho)⟩, fun h o ho => ho.elim (h.1 o) (h.2 o)⟩
end

theorem ptrsL_mem {l : List AV} {i : Nat} {a : AV} {o : Nat} (h : l[i]? = some a) (ho : o ∈ ptrs a) : o ∈ ptrsL l := by
  induction l generalizing i with
  | nil => simp at h
  | cons b r ih =>
    simp only [ptrsL, List.mem_append]
    cases i with
    | zero => simp at h; subst h; exact .inl ho
    | succ i => exact .inr (ih (by simpa using h))
end

mutual
theorem ren_id : ∀ (a : AV), ren id a = a
  | .any | .pv _ | .own _ _ | .nilp | .view _ | .nilfn | .nili | .ptr _ _ => by simp [ren]
  | .agg cs | .tup cs | .fn _ cs => by simp only [ren, rens_id]
  | .iface t v => by simp only [ren, ren_id]
theorem rens_id : ∀ (l : List AV), rens id l = l
  | [] => rfl
  | a :: r => by simp only [rens, ren_id, rens_id]
end

theorem nodup_map {f : Nat → Nat} : ∀ {l : List Nat}, l.Nodup → (∀ a ∈ l, ∀ b ∈ l, f a = f b → a = b) → (l.map f).Nodup
  | [], _, _ => List.nodup_nil
  | a :: r, h, hi => by
    rw [List.nodup_cons] at h
    rw [List.map_cons, List.nodup_cons]
    refine ⟨fun hm => ?_, nodup_map h.2 (fun x hx y hy => hi x (List.mem_cons_of_mem _ hx) y (List.mem_cons_of_mem _ hy))⟩
    obtain ⟨b, hb, e⟩ := List.mem_map.1 hm
    have := hi b (List.mem_cons_of_mem _ hb) a List.mem_cons_self e
    exact h.1 (this ▸ hb)

/-! ### Which variables a callee can reach -/
def reachGo (h : H) : Nat → List Nat → List Nat → List Nat
  | 0, _, acc => acc
  | _ + 1, [], acc => acc
  | n + 1, o :: r, acc => if acc.contains o then reachGo h n r acc else reachGo h n (r ++ ptrsL (h.getD o [])) (acc ++ [o])

def reach (av : List AV) (h : H) : List Nat :=
  match ptrsL av with
  | [] => []
  | l => reachGo h (1 + l.length + (h.map fun c => (ptrsL c).length + 1).sum) l []

def canOk (π : List Nat) (av : List AV) (h : H) : Bool :=
  (ptrsL av).all π.contains && π.all (fun o => decide (o < h.length) && (ptrsL (h.getD o [])).all π.contains) && nodupB π
where nodupB : List Nat → Bool
  | [] => true
  | a :: r => !r.contains a && nodupB r

def idx (π : List Nat) (o : Nat) : Nat := match π with
  | [] => 0
  | a :: r => if a = o then 0 else idx r o + 1

def mu (π : List Nat) (N i : Nat) : Nat := match π, i with
  | [], i => N + i
  | a :: _, 0 => a
  | _ :: r, i + 1 => mu r N i

def place : H → List Nat → List (List AV) → H
  | h, o :: π, c :: cs => place (h.set o c) π cs
  | h, _, _ => h

def backH (π : List Nat) (h h' : H) : H :=
  place h π ((h'.take π.length).map (rens (mu π h.length))) ++ (h'.drop π.length).map (rens (mu π h.length))

def downH (π : List Nat) (h : H) : H := π.map fun o => rens (idx π) (h.getD o [])

/-- The callee's answer, told anew among all variables. -/
def backR (π : List Nat) (h : H) (r : AV × H × List Nat) : AV × H × List Nat :=
  (ren (mu π h.length) r.1, backH π h r.2.1, r.2.2.map (mu π h.length))

def ccall (call : ACall) : ACall := fun k av h =>
  if canOk (reach av h) av h then
    match call k (rens (idx (reach av h)) av) (downH (reach av h) h) with
    | some r => if (reach av h).length ≤ r.2.1.length then some (backR (reach av h) h r) else none
    | none => none
  else none

theorem nodupB_iff : ∀ (l : List Nat), canOk.nodupB l = true → l.Nodup
  | [], _ => List.nodup_nil
  | a :: r, h => by
    simp only [canOk.nodupB, Bool.and_eq_true, Bool.not_eq_true', List.contains_eq_mem, decide_eq_false_iff_not] at h
    exact List.nodup_cons.2 ⟨h.1, nodupB_iff r h.2⟩

theorem idx_get : ∀ (π : List Nat) (o : Nat), o ∈ π → π[idx π o]? = some o
  | [], o, h => by cases h
  | a :: r, o, h => by
    unfold idx
    split
    · rename_i e; simp [e]
    · rename_i e
      rcases List.mem_cons.1 h with h | h
      · exact absurd h.symm e
      · simpa using idx_get r o h

theorem mu_lt : ∀ (π : List Nat) (N i : Nat) (o : Nat), π[i]? = some o → mu π N i = o
  | [], N, i, o, h => by simp at h
  | a :: r, N, 0, o, h => by simpa [mu] using h
  | a :: r, N, i + 1, o, h => by simp only [mu]; exact mu_lt r N i o (by simpa using h)

theorem mu_ge : ∀ (π : List Nat) (N i : Nat), π.length ≤ i → mu π N i = N + (i - π.length)
  | [], N, i, h => by simp [mu]
  | a :: r, N, 0, h => by simp at h
  | a :: r, N, i + 1, h => by simp only [mu]; rw [mu_ge r N i (by simpa using h)]; simp

theorem place_length : ∀ (h : H) (π : List Nat) (cs : List (List AV)), (place h π cs).length = h.length
  | h, [], cs => by simp [place]
  | h, o :: π, [] => by simp [place]
  | h, o :: π, c :: cs => by simp only [place]; rw [place_length]; simp

theorem place_other : ∀ (h : H) (π : List Nat) (cs : List (List AV)) (p : Nat), p ∉ π → (place h π cs)[p]? = h[p]?
  | h, [], cs, p, _ => by simp [place]
  | h, o :: π, [], p, _ => by simp [place]
  | h, o :: π, c :: cs, p, hp => by
    simp only [List.mem_cons, not_or] at hp
    simp only [place]
    rw [place_other _ _ _ _ hp.2, List.getElem?_set_ne (fun e => hp.1 e.symm)]

theorem place_at : ∀ (h : H) (π : List Nat) (cs : List (List AV)) (i p : Nat) (c : List AV), π.Nodup → π[i]? = some p → cs[i]? = some c → p < h.length → (place h π cs)[p]? = some c
  | h, [], cs, i, p, c, _, hi, _, _ => by simp at hi
  | h, o :: π, [], i, p, c, _, _, hc, _ => by simp at hc
  | h, o :: π, d :: cs, 0, p, c, hn, hi, hc, hp => by
    simp at hi hc
    subst hi hc
    simp only [place]
    rw [place_other _ _ _ _ (List.nodup_cons.1 hn).1, List.getElem?_set_self hp]
  | h, o :: π, d :: cs, i + 1, p, c, hn, hi, hc, hp => by
    simp only [place]
    exact place_at _ _ _ i p c (List.nodup_cons.1 hn).2 (by simpa using hi) (by simpa using hc) (by simpa using hp)

mutual
theorem ren_back {π : List Nat} {N : Nat} (hn : π.Nodup) : ∀ (a : AV), (∀ o ∈ ptrs a, o ∈ π) → ren (mu π N) (ren (idx π) a) = a
  | .any, _ | .pv _, _ | .own _ _, _ | .nilp, _ | .view _, _ | .nilfn, _ | .nili, _ => by simp [ren]
  | .agg cs, h | .tup cs, h | .fn _ cs, h => by simp only [ptrs] at h; simp only [ren, rens_back hn cs h]
  | .ptr o f, h => by
    simp only [ptrs] at h
    simp only [ren]
    rw [mu_lt _ _ _ _ (idx_get π o (h o (by simp)))]
  | .iface t v, h => by simp only [ptrs] at h; simp only [ren, ren_back hn v h]
theorem rens_back {π : List Nat} {N : Nat} (hn : π.Nodup) : ∀ (l : List AV), (∀ o ∈ ptrsL l, o ∈ π) → rens (mu π N) (rens (idx π) l) = l
  | [], _ => rfl
  | a :: r, h => by
    simp only [ptrsL, List.mem_append] at h
    simp only [rens]
    rw [ren_back hn a (fun o ho => h o (.inl ho)), rens_back hn r (fun o ho => h o (.inr ho))]
end

section
variable {C : Ctx} {w w' : World} {G G' : Nat → Nat} {ρ : List Nat}

structure CanOk (π : List Nat) (av : List AV) (h : H) : Prop where
  args : ∀ o ∈ ptrsL av, o ∈ π
  lt : ∀ o ∈ π, o < h.length
  inn : ∀ o ∈ π, ∀ p ∈ ptrsL (h.getD o []), p ∈ π
  nd : π.Nodup

theorem canOk_iff {π : List Nat} {av : List AV} {h : H} (hc : canOk π av h = true) : CanOk π av h := by
  unfold canOk at hc
  simp only [Bool.and_eq_true, List.all_eq_true, List.contains_eq_mem, decide_eq_true_eq] at hc
  obtain ⟨⟨h1, h2⟩, h3⟩ := hc
  exact ⟨h1, fun o ho => (h2 o ho).1, fun o ho => (h2 o ho).2, nodupB_iff π h3⟩

def sub (π ρ : List Nat) : List Nat := π.map fun o => ρ.getD o 0

theorem sub_get {π ρ : List Nat} {i o : Nat} (h : π[i]? = some o) (hl : o < ρ.length) : (sub π ρ)[i]? = ρ[o]? := by
  unfold sub
  rw [List.getElem?_map, h]
  simp only [Option.map_some, List.getD_eq_getElem?_getD]
  rw [List.getElem?_eq_getElem hl]
  rfl

def lift (π : List Nat) : Loc → Loc
  | .t i => .t i
  | .o i j => .o (π.getD i 0) j

theorem owns_down {π : List Nat} {av : List AV} {vs : List Value} {h : H} (hK : CanOk π av h) (hρ : h.length = ρ.length) {x : Loc} {g : Nat}
    (ho : OwnsAt w (sub π ρ) (rens (idx π) av) vs (downH π h) x g) : OwnsAt w ρ av vs h (lift π x) g ∧ ∀ i j, x = .o i j → i < π.length := by
  cases x with
  | t i =>
    obtain ⟨a, v, ha, hv, hu⟩ := ho
    rw [rens_map, List.getElem?_map] at ha
    obtain ⟨a', ha', rfl⟩ := Option.map_eq_some_iff.1 ha
    rw [ub_ren] at hu
    exact ⟨⟨a', v, ha', hv, hu⟩, fun i j e => by cases e⟩
  | o i j =>
    obtain ⟨cs, b, a, v, hc, hj, hb, hcell, hu⟩ := ho
    unfold downH at hc
    rw [List.getElem?_map] at hc
    obtain ⟨o, hi, rfl⟩ := Option.map_eq_some_iff.1 hc
    have hlt := hK.lt o (List.mem_of_getElem? hi)
    rw [rens_map, List.getElem?_map] at hj
    obtain ⟨a', hj', rfl⟩ := Option.map_eq_some_iff.1 hj
    rw [sub_get hi (by omega)] at hb
    rw [ub_ren] at hu
    have e : π.getD i 0 = o := by rw [List.getD_eq_getElem?_getD, hi]; rfl
    refine ⟨⟨h.getD o [], b, a', v, ?_, hj', by rw [e]; exact hb, hcell, hu⟩, fun i' j' e' => by cases e'; exact (List.getElem?_eq_some_iff.1 hi).1⟩
    rw [e, List.getElem?_eq_getElem hlt, List.getD_eq_getElem?_getD, List.getElem?_eq_getElem hlt]
    rfl

theorem lift_inj {π : List Nat} (hn : π.Nodup) {x y : Loc} (hx : ∀ i j, x = .o i j → i < π.length) (hy : ∀ i j, y = .o i j → i < π.length) (h : lift π x = lift π y) : x = y := by
  cases x with
  | t i => cases y with
    | t j => exact h
    | o p j => cases h
  | o i j => cases y with
    | t k => cases h
    | o p k =>
      simp only [lift, Loc.o.injEq] at h
      obtain ⟨h1, rfl⟩ := h
      have hi := hx i j rfl
      have hp := hy p j rfl
      have : i = p := by
        rw [List.getD_eq_getElem?_getD, List.getD_eq_getElem?_getD, List.getElem?_eq_getElem hi, List.getElem?_eq_getElem hp] at h1
        exact (List.getElem?_inj hi hn).1 (by rw [List.getElem?_eq_getElem hi, List.getElem?_eq_getElem hp]; simpa using h1)
      rw [this]

theorem inv_down0 (hg : GlobOk C) {π : List Nat} {av : List AV} {vs : List Value} {h : H} (hK : CanOk π av h) (I : Inv C w G ρ av vs h) :
    Inv C w G (sub π ρ) (rens (idx π) av) vs (downH π h) := by
  have hρ := I.hlen
  have tr : ∀ o ∈ π, ∀ b, ρ[o]? = some b → (sub π ρ)[idx π o]? = some b := fun o ho b hb => by
    rw [sub_get (idx_get π o ho) (by have := hK.lt o ho; omega)]; exact hb
  have mem : ∀ b ∈ sub π ρ, b ∈ ρ := by
    intro b hb
    obtain ⟨i, hi⟩ := List.getElem?_of_mem hb
    have : ∃ o, π[i]? = some o := by
      have := (List.getElem?_eq_some_iff.1 hi).1
      unfold sub at this
      rw [List.length_map] at this
      exact ⟨_, List.getElem?_eq_getElem this⟩
    obtain ⟨o, ho⟩ := this
    rw [sub_get ho (by have := hK.lt o (List.mem_of_getElem? ho); omega)] at hi
    exact List.mem_of_getElem? hi
  refine { hlen := by simp [downH, sub], obj := ?_, objG := fun b hb => I.objG b (mem b hb), nodup := ?_, out := I.out, glob := ?_, len := by rw [rens_map]; simpa using I.len, rel := ?_, uniq := ?_, sep := ?_ }
  · intro i cs b hc hb
    unfold downH at hc
    rw [List.getElem?_map] at hc
    obtain ⟨o, hi, rfl⟩ := Option.map_eq_some_iff.1 hc
    have ho := List.mem_of_getElem? hi
    have hlt := hK.lt o ho
    rw [sub_get hi (by omega)] at hb
    have hget : h[o]? = some (h.getD o []) := by rw [List.getElem?_eq_getElem hlt, List.getD_eq_getElem?_getD, List.getElem?_eq_getElem hlt]; rfl
    obtain ⟨us, ty, h1, h2, h3⟩ := I.obj o _ b hget hb
    refine ⟨us, ty, h1, by rw [rens_map]; simpa using h2, fun j a v hj hv => ?_⟩
    rw [rens_map, List.getElem?_map] at hj
    obtain ⟨a', hj', rfl⟩ := Option.map_eq_some_iff.1 hj
    obtain ⟨h4, h5⟩ := h3 j a' v hj' hv
    exact ⟨relA_ren _ _ (fun p hp b hb => tr p (hK.inn o ho p (ptrsL_mem hj' hp)) b hb) h4, h5⟩
  · refine nodup_map hK.nd (fun a ha b hb he => ?_)
    have h1 := hK.lt a ha
    have h2 := hK.lt b hb
    rw [List.getD_eq_getElem?_getD, List.getD_eq_getElem?_getD, List.getElem?_eq_getElem (by omega : a < ρ.length), List.getElem?_eq_getElem (by omega : b < ρ.length)] at he
    exact (List.getElem?_inj (by omega) I.nodup).1 (by rw [List.getElem?_eq_getElem (by omega : a < ρ.length), List.getElem?_eq_getElem (by omega : b < ρ.length)]; simpa using he)
  · intro g
    refine ⟨(I.glob g).1, ?_⟩
    have hno : ∀ o ∈ ptrs (C.glob g), False := fun o ho => by
      have := (ptrs_ok (n := 0) (C.glob g)).2 (hg 0 g) o ho
      omega
    have h1 := relA_ren (ρ' := sub π ρ) (σ := id) (C.glob g) _ (fun o ho => (hno o ho).elim) (I.glob g).2
    rwa [ren_id] at h1
  · intro i a v hi hv
    rw [rens_map, List.getElem?_map] at hi
    obtain ⟨a', hi', rfl⟩ := Option.map_eq_some_iff.1 hi
    exact relA_ren _ _ (fun p hp b hb => tr p (hK.args p (ptrsL_mem hi' hp)) b hb) (I.rel i a' v hi' hv)
  · intro x y g hx hy
    obtain ⟨h1, h2⟩ := owns_down hK hρ hx
    obtain ⟨h3, h4⟩ := owns_down hK hρ hy
    exact lift_inj hK.nd h2 h4 (I.uniq _ _ g h1 h3)
  · intro x g hx hm
    exact I.sep _ g (owns_down hK hρ hx).1 (mem g hm)

theorem ret_back (hg : GlobOk C) {π : List Nat} {av : List AV} {vs : List Value} {h h0 : H} {r : AV} {v : Value} (hK : CanOk π av h) (I : Inv C w G ρ av vs h) (_hle : π.length ≤ h0.length)
    (hr : RetPost C w G (sub π ρ) (Touch w (sub π ρ) (rens (idx π) av) vs (downH π h)) r h0 v w') :
    RetPost C w G ρ (Touch w ρ av vs h) (ren (mu π h.length) r) (backH π h h0) v w' := by
  obtain ⟨G', ρ0, ⟨nw, hnw⟩, J, T⟩ := hr
  have hρ := I.hlen
  have hsl : (sub π ρ).length = π.length := by simp [sub]
  have hρ0 : ρ0.length = π.length + nw.length := by rw [← hnw, List.length_append, hsl]
  have hJl := J.hlen
  have hpl := place_length h π ((h0.take π.length).map (rens (mu π h.length)))
  have F1 : ∀ q, q < ρ0.length → (ρ ++ nw)[mu π h.length q]? = ρ0[q]? := by
    intro q hq
    rcases Nat.lt_or_ge q π.length with hlt | hge
    · obtain ⟨o, ho⟩ : ∃ o, π[q]? = some o := ⟨_, List.getElem?_eq_getElem hlt⟩
      have hl := hK.lt o (List.mem_of_getElem? ho)
      rw [mu_lt _ _ _ _ ho, List.getElem?_append_left (by omega), ← hnw, List.getElem?_append_left (by omega), sub_get ho (by omega)]
    · rw [mu_ge _ _ _ hge, List.getElem?_append_right (by omega), ← hnw, List.getElem?_append_right (by omega), hsl]
      congr 1
      omega
  have F1' : ∀ q b, ρ0[q]? = some b → (ρ ++ nw)[mu π h.length q]? = some b := fun q b hb => by
    rw [F1 q (List.getElem?_eq_some_iff.1 hb).1]; exact hb
  have F2 : ∀ q, q < h0.length → (backH π h h0)[mu π h.length q]? = (h0[q]?).map (rens (mu π h.length)) := by
    intro q hq
    unfold backH
    rcases Nat.lt_or_ge q π.length with hlt | hge
    · obtain ⟨o, ho⟩ : ∃ o, π[q]? = some o := ⟨_, List.getElem?_eq_getElem hlt⟩
      have hl := hK.lt o (List.mem_of_getElem? ho)
      have hc : ((h0.take π.length).map (rens (mu π h.length)))[q]? = some (rens (mu π h.length) h0[q]) := by
        rw [List.getElem?_map, List.getElem?_take, if_pos hlt, List.getElem?_eq_getElem hq]; rfl
      rw [mu_lt _ _ _ _ ho, List.getElem?_append_left (by omega), place_at _ _ _ q o _ hK.nd ho hc hl, List.getElem?_eq_getElem hq]
      rfl
    · rw [mu_ge _ _ _ hge, List.getElem?_append_right (by omega), hpl, List.getElem?_map, List.getElem?_drop]
      congr 2
      omega
  have F3 : ∀ p, p < h.length → p ∉ π → (backH π h h0)[p]? = h[p]? ∧ (ρ ++ nw)[p]? = ρ[p]? := by
    intro p hp hn
    unfold backH
    exact ⟨by rw [List.getElem?_append_left (by omega), place_other _ _ _ _ hn], by rw [List.getElem?_append_left (by omega)]⟩
  have hlen' : (backH π h h0).length = h.length + (h0.length - π.length) := by unfold backH; rw [List.length_append, hpl]; simp
  have F4 : ∀ p, p < (backH π h h0).length → (∃ q, q < h0.length ∧ p = mu π h.length q) ∨ (p < h.length ∧ p ∉ π) := by
    intro p hp
    rcases Nat.lt_or_ge p h.length with hlt | hge
    · by_cases hm : p ∈ π
      · obtain ⟨q, hq⟩ := List.getElem?_of_mem hm
        exact .inl ⟨q, by have := (List.getElem?_eq_some_iff.1 hq).1; omega, (mu_lt _ _ _ _ hq).symm⟩
      · exact .inr ⟨hlt, hm⟩
    · refine .inl ⟨π.length + (p - h.length), by omega, ?_⟩
      rw [mu_ge _ _ _ (by omega)]
      omega
  have hget : ∀ p b, ρ[p]? = some b → p ∉ π → b ∉ sub π ρ := by
    intro p b hb hp hm
    obtain ⟨i, hi⟩ := List.getElem?_of_mem hm
    have hlt : i < π.length := by have := (List.getElem?_eq_some_iff.1 hi).1; omega
    have ho : π[i]? = some π[i] := List.getElem?_eq_getElem hlt
    have hol := hK.lt _ (List.mem_of_getElem? ho)
    rw [sub_get ho (by omega)] at hi
    have e : π[i] = p := (List.getElem?_inj (by omega) I.nodup).1 (hi.trans hb.symm)
    exact hp (e ▸ List.mem_of_getElem? ho)
  have mem : ∀ b ∈ sub π ρ, b ∈ ρ := by
    intro b hb
    obtain ⟨i, hi⟩ := List.getElem?_of_mem hb
    have hlt : i < π.length := by have := (List.getElem?_eq_some_iff.1 hi).1; omega
    have ho : π[i]? = some π[i] := List.getElem?_eq_getElem hlt
    have hol := hK.lt _ (List.mem_of_getElem? ho)
    rw [sub_get ho (by omega)] at hi
    exact List.mem_of_getElem? hi
  have hTT : ∀ g, Touch w (sub π ρ) (rens (idx π) av) vs (downH π h) g → Touch w ρ av vs h g := by
    rintro g (h | ⟨y, hy⟩)
    · exact .inl (mem g h)
    · exact .inr ⟨_, (owns_down hK hρ hy).1⟩
  have hlt : ∀ b ∈ ρ, b < w.heap.size := by
    intro b hb
    obtain ⟨q, hq⟩ := List.getElem?_of_mem hb
    have hq' : q < h.length := by rw [hρ]; exact (List.getElem?_eq_some_iff.1 hq).1
    obtain ⟨us, ty, h1, _⟩ := I.obj q _ b (List.getElem?_eq_getElem hq') hq
    exact (Array.getElem?_eq_some_iff.1 h1).1
  have hfar : ∀ b ∈ ρ, b ∉ sub π ρ → ¬ Touch w (sub π ρ) (rens (idx π) av) vs (downH π h) b := by
    rintro b hb hn (h | ⟨y, hy⟩)
    · exact hn h
    · exact I.sep _ b (owns_down hK hρ hy).1 hb
  have hstay : ∀ b ∈ ρ, b ∉ sub π ρ → Stays w G w' G' b := fun b hb hn => T.keep b (hlt b hb) (hfar b hb hn)
  have hown : ∀ p j g, OwnsAt w ρ av vs h (.o p j) g → p ∉ π → ¬ Touch w (sub π ρ) (rens (idx π) av) vs (downH π h) g := by
    rintro p j g ho hp (hm | ⟨y, hy⟩)
    · exact I.sep _ g ho (mem g hm)
    · obtain ⟨h1, h2⟩ := owns_down hK hρ hy
      have e := I.uniq _ _ g h1 ho
      cases y with
      | t i => cases e
      | o i k =>
        simp only [lift, Loc.o.injEq] at e
        have hi := h2 i k rfl
        rw [List.getD_eq_getElem?_getD, List.getElem?_eq_getElem hi] at e
        exact hp (by rw [← e.1]; exact List.getElem_mem hi)
  have hx : ∀ p j g, OwnsAt w' (ρ ++ nw) [ren (mu π h.length) r] [v] (backH π h h0) (.o p j) g → p < h.length → p ∉ π → OwnsAt w ρ av vs h (.o p j) g := by
    rintro p j g ⟨cs, bl, c, u, hc, hj, hb, hcell, hub⟩ hp hn
    rw [(F3 p hp hn).1] at hc
    rw [(F3 p hp hn).2] at hb
    refine ⟨cs, bl, c, u, hc, hj, hb, ?_, hub⟩
    rw [← cell_blk (hstay bl (List.mem_of_getElem? hb) (hget p bl hb hn)).blk]; exact hcell
  have key2 : ∀ y g, OwnsAt w' (ρ ++ nw) [ren (mu π h.length) r] [v] (backH π h h0) y g →
      (∃ z, OwnsAt w' ρ0 [r] [v] h0 z g ∧ y = match z with | .t i => .t i | .o q j => .o (mu π h.length q) j) ∨ (∃ p j, y = .o p j ∧ p ∉ π ∧ OwnsAt w ρ av vs h (.o p j) g) := by
    intro y g hy
    cases y with
    | t i =>
      obtain ⟨a, u, ha, hu, hub⟩ := hy
      cases i with
      | zero =>
        simp at ha hu
        subst ha hu
        rw [ub_ren] at hub
        exact .inl ⟨.t 0, ⟨r, v, rfl, rfl, hub⟩, rfl⟩
      | succ i => simp at ha
    | o p j =>
      obtain ⟨cs, bl, c, u, hc, hj, hb, hcell, hub⟩ := hy
      rcases F4 p (List.getElem?_eq_some_iff.1 hc).1 with ⟨q, hq, rfl⟩ | ⟨hp, hn⟩
      · rw [F2 q hq] at hc
        obtain ⟨cs0, hc0, rfl⟩ := Option.map_eq_some_iff.1 hc
        rw [F1 q (by omega)] at hb
        rw [rens_map, List.getElem?_map] at hj
        obtain ⟨c0, hj0, rfl⟩ := Option.map_eq_some_iff.1 hj
        rw [ub_ren] at hub
        exact .inl ⟨.o q j, ⟨cs0, bl, c0, u, hc0, hj0, hb, hcell, hub⟩, rfl⟩
      · exact .inr ⟨p, j, rfl, hn, hx p j g ⟨cs, bl, c, u, hc, hj, hb, hcell, hub⟩ hp hn⟩
  have hsub : ∀ z g, OwnsAt w' ρ0 [r] [v] h0 z g → Touch w (sub π ρ) (rens (idx π) av) vs (downH π h) g ∨ w.heap.size ≤ g := fun z g hz => T.sub g (.inr ⟨z, hz⟩)
  have hap : ∀ z p j g, OwnsAt w' ρ0 [r] [v] h0 z g → p ∉ π → ¬ OwnsAt w ρ av vs h (.o p j) g := by
    intro z p j g hz hp ho
    rcases hsub z g hz with hs | hs
    · exact hown p j g ho hp hs
    · exact absurd (owns_lt I ho) (by omega)
  have hno : ∀ g, ∀ o ∈ ptrs (C.glob g), False := fun g o ho => by
    have := (ptrs_ok (n := 0) (C.glob g)).2 (hg 0 g) o ho
    omega
  have hnw0 : ∀ b ∈ nw, b ∈ ρ0 := fun b hb => by rw [← hnw]; exact List.mem_append_right _ hb
  have hfresh : ∀ b ∈ nw, b ∉ ρ := by
    intro b hb hm
    rcases T.sub b (.inl (hnw0 b hb)) with hs | hs
    · by_cases hm2 : b ∈ sub π ρ
      · have := J.nodup
        rw [← hnw, List.nodup_append] at this
        exact this.2.2 b hm2 b hb rfl
      · exact hfar b hm hm2 hs
    · exact absurd (hlt b hm) (by omega)
  refine ⟨G', ρ ++ nw, List.prefix_append _ _, ?_, ?_⟩
  · refine { hlen := by rw [hlen', List.length_append]; omega, obj := ?_, objG := ?_, nodup := ?_, out := J.out, glob := fun g => ⟨(J.glob g).1, ?_⟩, len := rfl, rel := ?_, uniq := ?_, sep := ?_ }
    · intro p cs bl hc hb
      rcases F4 p (List.getElem?_eq_some_iff.1 hc).1 with ⟨q, hq, rfl⟩ | ⟨hp, hn⟩
      · rw [F2 q hq] at hc
        obtain ⟨cs0, hc0, rfl⟩ := Option.map_eq_some_iff.1 hc
        rw [F1 q (by omega)] at hb
        obtain ⟨us, ty, h1, h2, h3⟩ := J.obj q cs0 bl hc0 hb
        refine ⟨us, ty, h1, by rw [rens_map]; simpa using h2, fun j c u hj hu => ?_⟩
        rw [rens_map, List.getElem?_map] at hj
        obtain ⟨c0, hj0, rfl⟩ := Option.map_eq_some_iff.1 hj
        exact ⟨relA_ren _ _ (fun o _ b hb => F1' o b hb) (h3 j c0 u hj0 hu).1, (h3 j c0 u hj0 hu).2⟩
      · rw [(F3 p hp hn).1] at hc
        rw [(F3 p hp hn).2] at hb
        obtain ⟨us, ty, h1, h2, h3⟩ := I.obj p cs bl hc hb
        have hbm := List.mem_of_getElem? hb
        refine ⟨us, ty, by rw [(hstay bl hbm (hget p bl hb hn)).blk]; exact h1, h2, fun j c u hj hu => ⟨?_, (h3 j c u hj hu).2⟩⟩
        refine RelA_mono T.toMono (List.prefix_append _ _) _ _ (fun g hgu => ?_) (h3 j c u hj hu).1
        have ho : OwnsAt w ρ av vs h (.o p j) g := ⟨cs, bl, c, u, hc, hj, hb, by rw [cell_of_block h1]; exact hu, hgu⟩
        exact T.keep g (owns_lt I ho) (hown p j g ho hn)
    · intro bl hb
      rcases List.mem_append.1 hb with hb | hb
      · by_cases hm : bl ∈ sub π ρ
        · exact J.objG bl (by rw [← hnw]; exact List.mem_append_left _ hm)
        · rw [(hstay bl hb hm).fr]; exact I.objG bl hb
      · exact J.objG bl (hnw0 bl hb)
    · rw [List.nodup_append]
      have := J.nodup
      rw [← hnw, List.nodup_append] at this
      exact ⟨I.nodup, this.2.1, fun a ha b hb e => hfresh b hb (e ▸ ha)⟩
    · have h1 := relA_ren (ρ' := ρ ++ nw) (σ := id) (C.glob g) _ (fun o ho => (hno g o ho).elim) (J.glob g).2
      rwa [ren_id] at h1
    · intro i c u hc hu
      cases i with
      | zero =>
        simp at hc hu
        subst hc hu
        exact relA_ren _ _ (fun o _ b hb => F1' o b hb) (J.rel 0 r v rfl rfl)
      | succ i => simp at hc
    · intro y z g hy hz
      rcases key2 y g hy with ⟨y0, h1, rfl⟩ | ⟨p, j, rfl, hp, h1⟩ <;> rcases key2 z g hz with ⟨z0, h2, rfl⟩ | ⟨q, k, rfl, hq, h2⟩
      · rw [J.uniq y0 z0 g h1 h2]
      · exact absurd h2 (hap y0 q k g h1 hq)
      · exact absurd h1 (hap z0 p j g h2 hp)
      · exact I.uniq _ _ g h1 h2
    · intro y g hy hm
      rcases key2 y g hy with ⟨y0, h1, rfl⟩ | ⟨p, j, rfl, hp, h1⟩
      · have hn := J.sep y0 g h1
        rcases List.mem_append.1 hm with hm | hm
        · rcases hsub y0 g h1 with hs | hs
          · exact hfar g hm (fun hm2 => hn (by rw [← hnw]; exact List.mem_append_left _ hm2)) hs
          · exact absurd (hlt g hm) (by omega)
        · exact hn (hnw0 g hm)
      · rcases List.mem_append.1 hm with hm | hm
        · exact I.sep _ g h1 hm
        · rcases T.sub g (.inl (hnw0 g hm)) with hs | hs
          · exact hown p j g h1 hp hs
          · exact absurd (owns_lt I h1) (by omega)
  · refine { T with keep := fun g hgl hS => T.keep g hgl (fun h => hS (hTT g h)), sub := ?_ }
    rintro g (hm | ⟨y, hy⟩)
    · rcases List.mem_append.1 hm with hm | hm
      · exact .inl (.inl hm)
      · exact (T.sub g (.inl (hnw0 g hm))).imp (hTT g) id
    · rcases key2 y g hy with ⟨y0, h1, rfl⟩ | ⟨p, j, rfl, hp, h1⟩
      · exact (hsub y0 g h1).imp (hTT g) id
      · exact .inl (.inr ⟨_, h1⟩)

theorem keeps_back {π : List Nat} {av : List AV} {h h0 : H} {L : List Nat} (hK : CanOk π av h) (_hle : π.length ≤ h0.length) (hk : Keeps L (downH π h) h0) :
    Keeps (L.map (mu π h.length)) h (backH π h h0) := by
  have hpl := place_length h π ((h0.take π.length).map (rens (mu π h.length)))
  refine ⟨by unfold backH; rw [List.length_append, hpl]; omega, fun p hp hn => ?_⟩
  unfold backH
  rw [List.getElem?_append_left (by omega)]
  by_cases hm : p ∈ π
  · obtain ⟨q, hq⟩ := List.getElem?_of_mem hm
    have hql := (List.getElem?_eq_some_iff.1 hq).1
    have hq0 : q < h0.length := by omega
    have hc : ((h0.take π.length).map (rens (mu π h.length)))[q]? = some (rens (mu π h.length) h0[q]) := by
      rw [List.getElem?_map, List.getElem?_take, if_pos hql, List.getElem?_eq_getElem hq0]; rfl
    rw [place_at _ _ _ q p _ hK.nd hq hc hp]
    have hqL : q ∉ L := fun hL => hn (List.mem_map.2 ⟨q, hL, mu_lt _ _ _ _ hq⟩)
    have h1 := hk.2 q (by simpa [downH] using hql) hqL
    unfold downH at h1
    rw [List.getElem?_map, hq, List.getElem?_eq_getElem hq0] at h1
    simp only [Option.map_some, Option.some.injEq] at h1
    have hget : h[p]? = some (h.getD p []) := by rw [List.getElem?_eq_getElem hp, List.getD_eq_getElem?_getD, List.getElem?_eq_getElem hp]; rfl
    rw [h1, hget]
    congr 1
    exact rens_back hK.nd _ (fun o ho => hK.inn p hm o ho)
  · rw [place_other _ _ _ _ hm]

/-- The callee's answer among the variables that it reaches is its answer among all. -/
theorem ccall_ok (hg : GlobOk C) {call : ACall} (hc : CallOk C call) : CallOk C (ccall call) := by
  intro k av h r h' L hx
  unfold ccall at hx
  split at hx
  · rename_i hcan
    have hK := canOk_iff hcan
    split at hx
    · rename_i R hR
      split at hx
      · rename_i hle
        obtain ⟨r0, h0, L0⟩ := R
        simp only [backR, Option.some.injEq, Prod.mk.injEq] at hx hle
        obtain ⟨rfl, rfl, rfl⟩ := hx
        obtain ⟨hF, hk⟩ := hc _ _ _ _ _ _ hR
        refine ⟨fun w G ρ vs I => ?_, keeps_back hK hle hk⟩
        rcases hF w G _ vs (inv_down0 hg hK I) with ⟨h1, h2⟩ | ⟨v, w', h1, h2⟩
        · refine .inl ⟨h1, Calls.mono h2 ?_⟩
          rintro e w' ⟨v, rfl, hr⟩
          exact ⟨v, rfl, ret_back hg hK I hle hr⟩
        · exact .inr ⟨v, w', h1, ret_back hg hK I hle h2⟩
      · cases hx
    · cases hx
  · cases hx

/-! ### Calls -/
/-- The machine over all depths. -/
def acall (C : Ctx) : Nat → ACall
  | 0, _, _, _ => none
  | n + 1, f, args, h => match C.ext f with
    | some e => e args h
    | none => abody C (ccall (acall C n)) n f args h

/-- What stands outside holds. -/
def ExtOk (C : Ctx) : Prop := ∀ k e av h r h' L, C.ext k = some e → e av h = some (r, h', L) → FnDoes C k av h r h' ∧ Keeps L h h'

theorem call_sound (hC : CtxOk C) (hg : GlobOk C) (he : ExtOk C) : ∀ n, CallOk C (acall C n)
  | 0, k, av, h, r, h', L, hx => by simp [acall] at hx
  | n + 1, k, av, h, r, h', L, hx => by
    simp only [acall] at hx
    split at hx
    · rename_i e hk
      exact he k e av h _ _ _ hk hx
    · exact ⟨body_sound hC hg (ccall_ok hg (call_sound hC hg he n)) hx, body_keeps hg (ccall_ok hg (call_sound hC hg he n)) hx⟩

end
end Go.AM
