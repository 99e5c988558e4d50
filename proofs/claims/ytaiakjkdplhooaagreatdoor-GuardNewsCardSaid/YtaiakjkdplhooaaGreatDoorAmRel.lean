/- How the abstract machine's values stand for the model's, in a world. -/
import Derived.Test.YtaiakjkdplhooaaGreatDoorAmDefs
import Derived.Laws.AppendOwn
import Derived.Maps.AppendAt
import Derived.Laws.Cells
import Derived.Laws.NewBlocks
namespace Go.AM
open Go

/-- The cells from a place on. -/
def cellsAt (w : World) (b off : Nat) (vs : List Value) : Prop := ∀ j v, vs[j]? = some v → w.cell? ⟨b, off + j, none⟩ = some v

/-- The cells of values, one behind the other. -/
def flat (us : List Value) : List Value := us.flatMap fun u => u.cells.toList

mutual
def RelP (w : World) (G : Nat → Nat) : PV → Value → Prop
  | .int k n, v => v = .int k n
  | .bool b, v => v = .bool b
  | .str s, v => v = .string ⟨s.toArray⟩
  | .agg cs, v => ∃ vs, v = .agg vs.toArray ∧ (∀ c ∈ vs, c.oneCell' = true) ∧ RelPs w G cs vs
  | .sl l, v => ∃ A c, v = .slice A l.length c ∧ l.length ≤ c ∧ (l = [] ∨ ∃ b off k us, A = some ⟨b, off, none⟩ ∧ RelPs w G l us ∧ (∀ u ∈ us, u.cells.size = k) ∧
      cellsAt w b off (flat us) ∧ off + (flat us).length ≤ G b)
def RelPs (w : World) (G : Nat → Nat) : List PV → List Value → Prop
  | [], vs => vs = []
  | p :: ps, vs => ∃ v r, vs = v :: r ∧ RelP w G p v ∧ RelPs w G ps r
end

/-- A slice that nobody else extends. -/
def OwnR (C : Ctx) (w : World) (G : Nat → Nat) (t : TypeId) (l : List PV) (v : Value) : Prop :=
  ∃ i us, C.ti t = some i ∧ RelPs w G l us ∧ (∀ u ∈ us, u.cells.size = i.size) ∧ w.ownsRow 0 t i.size v l.length (flat us) ∧ ∀ g, v.ownBlock = some g → G g = (flat us).length

/-- The block in which a slice has room. -/
def capBlock : Value → Option Nat
  | .slice (some a) _ c => if c = 0 then none else some a.block
  | _ => none

theorem capBlock_own {v : Value} {g : Nat} (h : capBlock v = some g) : v.ownBlock = some g := by
  unfold capBlock at h
  split at h
  · split at h
    · cases h
    · exact h
  · cases h

/-- .. or it is empty, and has no room. -/
def OwnS (C : Ctx) (w : World) (G : Nat → Nat) (t : TypeId) (l : List PV) (v : Value) : Prop :=
  OwnR C w G t l v ∨ (l = [] ∧ ∃ a, v = .slice (some a) 0 0)

def AV.lent : AV → Bool
  | .own (some _) _ => false
  | _ => true

mutual
def RelA (C : Ctx) (w : World) (G : Nat → Nat) (ρ : List Nat) : AV → Value → Prop
  | .any, _ => True
  | .pv p, v => RelP w G p v
  | .own none l, v => l = [] ∧ v = .slice none 0 0
  | .own (some t) l, v => OwnS C w G t l v
  | .agg cs, v => ∃ vs, v = .agg vs.toArray ∧ (∀ c ∈ vs, c.oneCell' = true) ∧ RelAs C w G ρ cs vs
  | .tup cs, v => ∃ vs, v = .tuple vs.toArray ∧ RelAs C w G ρ cs vs
  | .ptr o off, v => ∃ b, ρ[o]? = some b ∧ v = .pointer (some ⟨b, off, none⟩)
  | .nilp, v => v = .pointer none
  | .view cs, v => ∃ b off vs, v = .pointer (some ⟨b, off, none⟩) ∧ RelPs w G cs vs ∧ (∀ c ∈ vs, c.oneCell' = true) ∧ cellsAt w b off vs ∧ off + vs.length ≤ G b
  | .fn f caps, v => ∃ vs, v = .func (.func f) #[] vs.toArray ∧ RelAs C w G ρ caps vs
  | .nilfn, v => v = .nilFunc
  | .nili, v => v = .nilIface
  | .iface t a, v => ∃ u, v = .iface t u ∧ a.lent = true ∧ RelA C w G ρ a u
def RelAs (C : Ctx) (w : World) (G : Nat → Nat) (ρ : List Nat) : List AV → List Value → Prop
  | [], vs => vs = []
  | a :: r, vs => ∃ v s, vs = v :: s ∧ a.lent = true ∧ RelA C w G ρ a v ∧ RelAs C w G ρ r s
end

/-- Which block a value owns. -/
def ub (a : AV) (v : Value) : Option Nat :=
  match a with
  | .own (some _) _ => capBlock v
  | _ => none

/-- What world and frontier may become while all that is known stays so. -/
structure Mono (w : World) (G : Nat → Nat) (w' : World) (G' : Nat → Nat) : Prop where
  le : ∀ b, G b ≤ G' b
  cell : ∀ b o v, o < G b → w.cell? ⟨b, o, none⟩ = some v → w'.cell? ⟨b, o, none⟩ = some v

theorem Mono.refl (w : World) (G : Nat → Nat) : Mono w G w G := ⟨fun _ => Nat.le_refl _, fun _ _ _ _ h => h⟩
theorem Mono.trans {w w1 w2 : World} {G G1 G2 : Nat → Nat} (a : Mono w G w1 G1) (b : Mono w1 G1 w2 G2) : Mono w G w2 G2 :=
  ⟨fun x => Nat.le_trans (a.le x) (b.le x), fun x o v ho h => b.cell x o v (Nat.lt_of_lt_of_le ho (a.le x)) (a.cell x o v ho h)⟩

theorem cellsAt_mono {w w' : World} {G G' : Nat → Nat} (m : Mono w G w' G') {b off : Nat} {vs : List Value} (h : cellsAt w b off vs) (hG : off + vs.length ≤ G b) : cellsAt w' b off vs := by
  intro j v hj
  have hl : j < vs.length := by
    rcases Nat.lt_or_ge j vs.length with h | h
    · exact h
    · rw [List.getElem?_eq_none h] at hj; cases hj
  exact m.cell _ _ _ (by omega) (h j v hj)

mutual
theorem RelP_mono {w w' : World} {G G' : Nat → Nat} (m : Mono w G w' G') : ∀ (p : PV) (v : Value), RelP w G p v → RelP w' G' p v
  | .int _ _, _, h => by simpa [RelP] using h
  | .bool _, _, h => by simpa [RelP] using h
  | .str _, _, h => by simpa [RelP] using h
  | .agg cs, v, h => by
    simp only [RelP] at h ⊢
    obtain ⟨vs, e, h1, h2⟩ := h
    exact ⟨vs, e, h1, RelPs_mono m cs vs h2⟩
  | .sl l, v, h => by
    simp only [RelP] at h ⊢
    obtain ⟨A, c, e, hc, h1⟩ := h
    refine ⟨A, c, e, hc, ?_⟩
    rcases h1 with h1 | ⟨b, off, k, us, eA, hr, hk, hcell, hG⟩
    · exact .inl h1
    · exact .inr ⟨b, off, k, us, eA, RelPs_mono m l us hr, hk, cellsAt_mono m hcell hG, Nat.le_trans hG (m.le b)⟩
theorem RelPs_mono {w w' : World} {G G' : Nat → Nat} (m : Mono w G w' G') : ∀ (ps : List PV) (vs : List Value), RelPs w G ps vs → RelPs w' G' ps vs
  | [], _, h => by simpa [RelPs] using h
  | p :: ps, vs, h => by
    simp only [RelPs] at h ⊢
    obtain ⟨v, r, e, h1, h2⟩ := h
    exact ⟨v, r, e, RelP_mono m p v h1, RelPs_mono m ps r h2⟩
end

/-- What stays of a value that is owned: its block is as it was. -/
structure Stays (w : World) (G : Nat → Nat) (w' : World) (G' : Nat → Nat) (g : Nat) : Prop where
  blk : w'.heap[g]? = w.heap[g]?
  fr : G' g = G g

theorem OwnR_mono {C : Ctx} {w w' : World} {G G' : Nat → Nat} (m : Mono w G w' G') {t : TypeId} {l : List PV} {v : Value} (h : OwnR C w G t l v)
    (hs : ∀ g, v.ownBlock = some g → Stays w G w' G' g) : OwnR C w' G' t l v := by
  obtain ⟨i, us, h1, h2, h3, h4, h5⟩ := h
  refine ⟨i, us, h1, RelPs_mono m _ _ h2, h3, ⟨h4.1, ?_⟩, fun g hg => by rw [(hs g hg).fr]; exact h5 g hg⟩
  rcases h4.2 with hn | ⟨g, cap, cur, e, hb, hg, rest⟩
  · exact .inl hn
  · exact .inr ⟨g, cap, cur, e, hb, by rw [(hs g (by rw [e]; rfl)).blk]; exact hg, rest⟩

theorem OwnS_mono {C : Ctx} {w w' : World} {G G' : Nat → Nat} (m : Mono w G w' G') {t : TypeId} {l : List PV} {v : Value} (h : OwnS C w G t l v)
    (hs : ∀ g, capBlock v = some g → Stays w G w' G' g) : OwnS C w' G' t l v := by
  rcases h with h | h
  · by_cases hb : ∀ g, v.ownBlock = some g → capBlock v = some g
    · exact .inl (OwnR_mono m h (fun g hg => hs g (hb g hg)))
    · obtain ⟨i, us, h1, h2, h3, h4, h5⟩ := h
      rcases h4.2 with ⟨rfl, _⟩ | ⟨g, cap, cur, rfl, _, _, hnc, _⟩
      · exact absurd (fun g hg => by simp [Value.ownBlock] at hg) hb
      · rcases Nat.eq_zero_or_pos cap with h0 | h0
        · subst h0
          have hl : l = [] := List.eq_nil_of_length_eq_zero (by omega)
          subst hl
          exact .inr ⟨rfl, _, rfl⟩
        · exact absurd (fun g' hg' => by
            simp only [Value.ownBlock, Option.some.injEq] at hg'
            simp only [capBlock, if_neg (Nat.ne_of_gt h0), hg']) hb
  · exact .inr h

mutual
theorem RelA_mono {C : Ctx} {w w' : World} {G G' : Nat → Nat} {ρ ρ' : List Nat} (m : Mono w G w' G') (hρ : ρ <+: ρ') :
    ∀ (a : AV) (v : Value), (∀ g, ub a v = some g → Stays w G w' G' g) → RelA C w G ρ a v → RelA C w' G' ρ' a v
  | .any, _, _, h => by simp [RelA]
  | .pv p, v, _, h => by simp only [RelA] at h ⊢; exact RelP_mono m p v h
  | .own none l, v, _, h => by simpa [RelA] using h
  | .own (some t) l, v, hs, h => by simp only [RelA] at h ⊢; exact OwnS_mono m h (fun g hg => hs g (by simpa only [ub] using hg))
  | .agg cs, v, _, h => by
    simp only [RelA] at h ⊢
    obtain ⟨vs, e, h1, h2⟩ := h
    exact ⟨vs, e, h1, RelAs_mono m hρ cs vs h2⟩
  | .tup cs, v, _, h => by
    simp only [RelA] at h ⊢
    obtain ⟨vs, e, h2⟩ := h
    exact ⟨vs, e, RelAs_mono m hρ cs vs h2⟩
  | .ptr o off, v, _, h => by
    simp only [RelA] at h ⊢
    obtain ⟨b, hb, e⟩ := h
    obtain ⟨r, rfl⟩ := hρ
    refine ⟨b, ?_, e⟩
    have hl : o < ρ.length := by
      rcases Nat.lt_or_ge o ρ.length with h | h
      · exact h
      · rw [List.getElem?_eq_none h] at hb; cases hb
    rw [List.getElem?_append_left hl]; exact hb
  | .nilp, _, _, h => by simpa [RelA] using h
  | .view cs, v, _, h => by
    simp only [RelA] at h ⊢
    obtain ⟨b, off, vs, e, h1, h2, h3, h4⟩ := h
    exact ⟨b, off, vs, e, RelPs_mono m cs vs h1, h2, cellsAt_mono m h3 h4, Nat.le_trans h4 (m.le b)⟩
  | .fn f caps, v, _, h => by
    simp only [RelA] at h ⊢
    obtain ⟨vs, e, h2⟩ := h
    exact ⟨vs, e, RelAs_mono m hρ caps vs h2⟩
  | .nilfn, _, _, h => by simpa [RelA] using h
  | .nili, _, _, h => by simpa [RelA] using h
  | .iface t a, v, _, h => by
    simp only [RelA] at h ⊢
    obtain ⟨u, e, hl, h2⟩ := h
    refine ⟨u, e, hl, RelA_mono m hρ a u (fun g hg => ?_) h2⟩
    cases a with
    | own t l => cases t with
      | none => simp [ub] at hg
      | some t => simp [AV.lent] at hl
    | _ => simp [ub] at hg
theorem RelAs_mono {C : Ctx} {w w' : World} {G G' : Nat → Nat} {ρ ρ' : List Nat} (m : Mono w G w' G') (hρ : ρ <+: ρ') :
    ∀ (cs : List AV) (vs : List Value), RelAs C w G ρ cs vs → RelAs C w' G' ρ' cs vs
  | [], _, h => by simpa [RelAs] using h
  | a :: r, vs, h => by
    simp only [RelAs] at h ⊢
    obtain ⟨v, s, e, hl, h1, h2⟩ := h
    refine ⟨v, s, e, hl, RelA_mono m hρ a v (fun g hg => ?_) h1, RelAs_mono m hρ r s h2⟩
    cases a with
    | own t l => cases t with
      | none => simp [ub] at hg
      | some t => simp [AV.lent] at hl
    | _ => simp [ub] at hg
end

theorem ub_lent {a : AV} {v : Value} (h : a.lent = true) : ub a v = none := by
  cases a with
  | own t l => cases t with
    | none => rfl
    | some t => simp [AV.lent] at h
  | _ => rfl

theorem lent_of_ub {a : AV} {v : Value} {g : Nat} (h : ub a v = some g) : ∃ t l, a = .own (some t) l := by
  cases a with
  | own t l => cases t with
    | none => simp [ub] at h
    | some t => exact ⟨t, l, rfl⟩
  | _ => simp [ub] at h

/-! ### Lists -/
theorem RelPs_length {w : World} {G : Nat → Nat} : ∀ {ps : List PV} {vs : List Value}, RelPs w G ps vs → ps.length = vs.length
  | [], _, h => by simp only [RelPs] at h; subst h; rfl
  | p :: ps, _, h => by
    simp only [RelPs] at h
    obtain ⟨v, r, rfl, _, h2⟩ := h
    simp [RelPs_length h2]

theorem RelPs_get {w : World} {G : Nat → Nat} : ∀ {ps : List PV} {vs : List Value}, RelPs w G ps vs → ∀ {i : Nat} {p : PV}, ps[i]? = some p → ∃ v, vs[i]? = some v ∧ RelP w G p v
  | [], _, _, i, p, hp => by simp at hp
  | q :: ps, _, h, i, p, hp => by
    simp only [RelPs] at h
    obtain ⟨v, r, rfl, h1, h2⟩ := h
    cases i with
    | zero => simp at hp; subst hp; exact ⟨v, rfl, h1⟩
    | succ i => simp at hp; obtain ⟨u, hu, hr⟩ := RelPs_get h2 hp; exact ⟨u, by simpa using hu, hr⟩

theorem RelPs_of_get {w : World} {G : Nat → Nat} : ∀ {ps : List PV} {vs : List Value}, ps.length = vs.length → (∀ (i : Nat) (p : PV) (v : Value), ps[i]? = some p → vs[i]? = some v → RelP w G p v) → RelPs w G ps vs
  | [], [], _, _ => by simp [RelPs]
  | [], _ :: _, h, _ => by simp at h
  | _ :: _, [], h, _ => by simp at h
  | p :: ps, v :: vs, h, hg => by
    simp only [RelPs]
    exact ⟨v, vs, rfl, hg 0 p v rfl rfl, RelPs_of_get (by simpa using h) (fun i p' v' hp hv => hg (i + 1) p' v' (by simpa using hp) (by simpa using hv))⟩

theorem RelPs_append {w : World} {G : Nat → Nat} : ∀ {ps qs : List PV} {vs us : List Value}, RelPs w G ps vs → RelPs w G qs us → RelPs w G (ps ++ qs) (vs ++ us)
  | [], _, _, _, h, h' => by simp only [RelPs] at h; subst h; simpa using h'
  | p :: ps, qs, _, us, h, h' => by
    simp only [RelPs, List.cons_append] at h ⊢
    obtain ⟨v, r, rfl, h1, h2⟩ := h
    exact ⟨v, r ++ us, rfl, h1, RelPs_append h2 h'⟩

theorem RelPs_take {w : World} {G : Nat → Nat} : ∀ {ps : List PV} {vs : List Value} (n : Nat), RelPs w G ps vs → RelPs w G (ps.take n) (vs.take n)
  | _, _, 0, _ => by simp [RelPs]
  | [], _, n + 1, h => by simp only [RelPs] at h; subst h; simp [RelPs]
  | p :: ps, _, n + 1, h => by
    simp only [RelPs, List.take_succ_cons] at h ⊢
    obtain ⟨v, r, rfl, h1, h2⟩ := h
    exact ⟨v, r.take n, rfl, h1, RelPs_take n h2⟩

theorem RelPs_drop {w : World} {G : Nat → Nat} : ∀ {ps : List PV} {vs : List Value} (n : Nat), RelPs w G ps vs → RelPs w G (ps.drop n) (vs.drop n)
  | _, _, 0, h => by simpa using h
  | [], _, n + 1, h => by simp only [RelPs] at h; subst h; simp [RelPs]
  | p :: ps, _, n + 1, h => by
    simp only [RelPs] at h
    obtain ⟨v, r, rfl, h1, h2⟩ := h
    simpa using RelPs_drop n h2

theorem RelAs_length {C : Ctx} {w : World} {G : Nat → Nat} {ρ : List Nat} : ∀ {ps : List AV} {vs : List Value}, RelAs C w G ρ ps vs → ps.length = vs.length
  | [], _, h => by simp only [RelAs] at h; subst h; rfl
  | p :: ps, _, h => by
    simp only [RelAs] at h
    obtain ⟨v, r, rfl, _, _, h2⟩ := h
    simp [RelAs_length h2]

theorem RelAs_get {C : Ctx} {w : World} {G : Nat → Nat} {ρ : List Nat} : ∀ {ps : List AV} {vs : List Value}, RelAs C w G ρ ps vs → ∀ {i : Nat} {p : AV}, ps[i]? = some p → ∃ v, vs[i]? = some v ∧ p.lent = true ∧ RelA C w G ρ p v
  | [], _, _, i, p, hp => by simp at hp
  | q :: ps, _, h, i, p, hp => by
    simp only [RelAs] at h
    obtain ⟨v, r, rfl, hl, h1, h2⟩ := h
    cases i with
    | zero => simp at hp; subst hp; exact ⟨v, rfl, hl, h1⟩
    | succ i => simp at hp; obtain ⟨u, hu, hr⟩ := RelAs_get h2 hp; exact ⟨u, by simpa using hu, hr⟩

theorem RelAs_of_get {C : Ctx} {w : World} {G : Nat → Nat} {ρ : List Nat} : ∀ {ps : List AV} {vs : List Value}, ps.length = vs.length →
    (∀ (i : Nat) (p : AV) (v : Value), ps[i]? = some p → vs[i]? = some v → p.lent = true ∧ RelA C w G ρ p v) → RelAs C w G ρ ps vs
  | [], [], _, _ => by simp [RelAs]
  | [], _ :: _, h, _ => by simp at h
  | _ :: _, [], h, _ => by simp at h
  | p :: ps, v :: vs, h, hg => by
    simp only [RelAs]
    exact ⟨v, vs, rfl, (hg 0 p v rfl rfl).1, (hg 0 p v rfl rfl).2, RelAs_of_get (by simpa using h) (fun i p' v' hp hv => hg (i + 1) p' v' (by simpa using hp) (by simpa using hv))⟩

theorem RelAs_append {C : Ctx} {w : World} {G : Nat → Nat} {ρ : List Nat} : ∀ {ps qs : List AV} {vs us : List Value}, RelAs C w G ρ ps vs → RelAs C w G ρ qs us → RelAs C w G ρ (ps ++ qs) (vs ++ us)
  | [], _, _, _, h, h' => by simp only [RelAs] at h; subst h; simpa using h'
  | p :: ps, qs, _, us, h, h' => by
    simp only [RelAs, List.cons_append] at h ⊢
    obtain ⟨v, r, rfl, hl, h1, h2⟩ := h
    exact ⟨v, r ++ us, rfl, hl, h1, RelAs_append h2 h'⟩

theorem RelAs_take {C : Ctx} {w : World} {G : Nat → Nat} {ρ : List Nat} : ∀ {ps : List AV} {vs : List Value} (n : Nat), RelAs C w G ρ ps vs → RelAs C w G ρ (ps.take n) (vs.take n)
  | _, _, 0, _ => by simp [RelAs]
  | [], _, n + 1, h => by simp only [RelAs] at h; subst h; simp [RelAs]
  | p :: ps, _, n + 1, h => by
    simp only [RelAs, List.take_succ_cons] at h ⊢
    obtain ⟨v, r, rfl, hl, h1, h2⟩ := h
    exact ⟨v, r.take n, rfl, hl, h1, RelAs_take n h2⟩

theorem RelAs_drop {C : Ctx} {w : World} {G : Nat → Nat} {ρ : List Nat} : ∀ {ps : List AV} {vs : List Value} (n : Nat), RelAs C w G ρ ps vs → RelAs C w G ρ (ps.drop n) (vs.drop n)
  | _, _, 0, h => by simpa using h
  | [], _, n + 1, h => by simp only [RelAs] at h; subst h; simp [RelAs]
  | p :: ps, _, n + 1, h => by
    simp only [RelAs] at h
    obtain ⟨v, r, rfl, _, h1, h2⟩ := h
    simpa using RelAs_drop n h2

theorem RelAs_pv {C : Ctx} {w : World} {G : Nat → Nat} {ρ : List Nat} : ∀ {ps : List PV} {vs : List Value}, RelPs w G ps vs → RelAs C w G ρ (ps.map .pv) vs
  | [], _, h => by simpa [RelPs, RelAs] using h
  | p :: ps, _, h => by
    simp only [RelPs, RelAs, List.map_cons] at h ⊢
    obtain ⟨v, r, rfl, h1, h2⟩ := h
    exact ⟨v, r, rfl, rfl, by simpa [RelA] using h1, RelAs_pv h2⟩

/-! ### Cells -/
theorem flat_length {us : List Value} {k : Nat} (h : ∀ u ∈ us, u.cells.size = k) : (flat us).length = us.length * k := by
  induction us with
  | nil => simp [flat]
  | cons u us ih =>
    have h1 : u.cells.size = k := h u (by simp)
    have h2 := ih (fun x hx => h x (by simp [hx]))
    simp only [flat, List.flatMap_cons, List.length_append, Array.length_toList, List.length_cons] at h2 ⊢
    rw [h1, h2, Nat.add_mul]; omega

theorem flat_append (us vs : List Value) : flat (us ++ vs) = flat us ++ flat vs := by simp [flat]

theorem flat_drop {us : List Value} {k : Nat} (h : ∀ u ∈ us, u.cells.size = k) (n : Nat) : flat (us.drop n) = (flat us).drop (n * k) := by
  induction us generalizing n with
  | nil => simp [flat]
  | cons u us ih =>
    cases n with
    | zero => simp
    | succ n =>
      have h1 : u.cells.size = k := h u (by simp)
      have h2 := ih (fun x hx => h x (by simp [hx])) n
      simp only [List.drop_succ_cons]
      rw [h2]
      show (flat us).drop (n * k) = (u.cells.toList ++ flat us).drop ((n + 1) * k)
      have e : (n + 1) * k = u.cells.toList.length + n * k := by rw [Array.length_toList, h1, Nat.add_mul]; omega
      rw [e, List.drop_append]
      simp

theorem flat_take {us : List Value} {k : Nat} (h : ∀ u ∈ us, u.cells.size = k) (n : Nat) : flat (us.take n) = (flat us).take (n * k) := by
  induction us generalizing n with
  | nil => simp [flat]
  | cons u us ih =>
    cases n with
    | zero => simp [flat]
    | succ n =>
      have h1 : u.cells.size = k := h u (by simp)
      have h2 := ih (fun x hx => h x (by simp [hx])) n
      show u.cells.toList ++ flat (us.take n) = (u.cells.toList ++ flat us).take ((n + 1) * k)
      have e : (n + 1) * k = u.cells.toList.length + n * k := by rw [Array.length_toList, h1, Nat.add_mul]; omega
      rw [h2, e, List.take_append, List.take_of_length_le (l := u.cells.toList) (Nat.le_add_right _ _), Nat.add_sub_cancel_left]

theorem cellsAt_drop {w : World} {b off : Nat} {vs : List Value} (h : cellsAt w b off vs) (n : Nat) : cellsAt w b (off + n) (vs.drop n) := by
  intro j v hj
  rw [List.getElem?_drop] at hj
  have := h (n + j) v hj
  rwa [Nat.add_assoc]

theorem cellsAt_take {w : World} {b off : Nat} {vs : List Value} (h : cellsAt w b off vs) (n : Nat) : cellsAt w b off (vs.take n) := by
  intro j v hj
  rw [List.getElem?_take] at hj
  split at hj
  · exact h j v hj
  · cases hj

theorem cellsAt_append {w : World} {b off : Nat} {vs us : List Value} (h : cellsAt w b off (vs ++ us)) : cellsAt w b off vs ∧ cellsAt w b (off + vs.length) us := by
  refine ⟨fun j v hj => h j v ?_, fun j v hj => ?_⟩
  · have hl : j < vs.length := by
      rcases Nat.lt_or_ge j vs.length with h | h
      · exact h
      · rw [List.getElem?_eq_none h] at hj; cases hj
    rw [List.getElem?_append_left hl]; exact hj
  · have := h (vs.length + j) v (by rw [List.getElem?_append_right (by omega)]; simpa using hj)
    rwa [Nat.add_assoc]

theorem one_cells {v : Value} (h : v.oneCell' = true) : v.cells = #[v] := by
  cases v <;> first | rfl | (simp [Value.oneCell'] at h)

/-- Plain data that is no struct takes one cell. -/
theorem RelP_cells {w : World} {G : Nat → Nat} {p : PV} {v : Value} (h : RelP w G p v) : RelPs w G p.cells v.cells.toList ∧ (∀ c ∈ v.cells.toList, c.oneCell' = true) := by
  cases p with
  | agg cs =>
    simp only [RelP] at h
    obtain ⟨vs, rfl, h1, h2⟩ := h
    exact ⟨by simpa [PV.cells, Value.cells] using h2, by simpa [Value.cells] using h1⟩
  | int k n => simp only [RelP] at h; subst h; exact ⟨by simp [PV.cells, Value.cells, RelPs, RelP], by simp [Value.cells, Value.oneCell']⟩
  | bool b => simp only [RelP] at h; subst h; exact ⟨by simp [PV.cells, Value.cells, RelPs, RelP], by simp [Value.cells, Value.oneCell']⟩
  | str s => simp only [RelP] at h; subst h; exact ⟨by simp [PV.cells, Value.cells, RelPs, RelP], by simp [Value.cells, Value.oneCell']⟩
  | sl l =>
    have h' := h
    simp only [RelP] at h
    obtain ⟨A, c, rfl, _⟩ := h
    exact ⟨by simp only [PV.cells, Value.cells, RelPs]; exact ⟨_, _, rfl, h', rfl⟩, by simp [Value.cells, Value.oneCell']⟩

end Go.AM
