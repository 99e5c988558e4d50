/- What is so of a state of the abstract machine and of the model's. -/
import Derived.Test.YtaiakjkdplhooaaGreatDoorAmRel
namespace Go.AM
open Go

inductive Loc where
  | t (i : Nat)
  | o (p j : Nat)
  deriving DecidableEq

/-- A place owns a block. -/
def OwnsAt (w : World) (ρ : List Nat) (t : List AV) (vs : List Value) (h : H) : Loc → Nat → Prop
  | .t i, g => ∃ a v, t[i]? = some a ∧ vs[i]? = some v ∧ ub a v = some g
  | .o p j, g => ∃ cs b a v, h[p]? = some cs ∧ cs[j]? = some a ∧ ρ[p]? = some b ∧ w.cell? ⟨b, j, none⟩ = some v ∧ ub a v = some g

/-- The variables in memory. -/
structure MemOk (C : Ctx) (w : World) (G : Nat → Nat) (ρ : List Nat) (h : H) : Prop where
  hlen : h.length = ρ.length
  obj : ∀ (p : Nat) (cs : List AV) (b : Nat), h[p]? = some cs → ρ[p]? = some b →
    ∃ (us : List Value) (ty : TypeId), w.heap[b]? = some (.cells us.toArray ty (0, 0)) ∧ cs.length = us.length ∧
      ∀ (j : Nat) (a : AV) (v : Value), cs[j]? = some a → us[j]? = some v → RelA C w G ρ a v ∧ v.oneCell' = true
  objG : ∀ b ∈ ρ, G b = 0
  nodup : ρ.Nodup
  out : ∀ b, w.heap.size ≤ b → G b = 0
  glob : ∀ g, (C.glob g).lent = true ∧ RelA C w G ρ (C.glob g) (.pointer (some ⟨g, 0, none⟩))

structure Inv (C : Ctx) (w : World) (G : Nat → Nat) (ρ : List Nat) (t : List AV) (vs : List Value) (h : H) : Prop extends MemOk C w G ρ h where
  len : t.length = vs.length
  rel : ∀ (i : Nat) (a : AV) (v : Value), t[i]? = some a → vs[i]? = some v → RelA C w G ρ a v
  uniq : ∀ x y g, OwnsAt w ρ t vs h x g → OwnsAt w ρ t vs h y g → x = y
  sep : ∀ x g, OwnsAt w ρ t vs h x g → g ∉ ρ

/-- What may be touched. -/
def Touch (w : World) (ρ : List Nat) (t : List AV) (vs : List Value) (h : H) (b : Nat) : Prop := b ∈ ρ ∨ ∃ x, OwnsAt w ρ t vs h x b

/-- From one world to a later one. -/
structure Tr (w : World) (G : Nat → Nat) (S : Nat → Prop) (w' : World) (G' : Nat → Nat) (S' : Nat → Prop) : Prop extends Mono w G w' G' where
  size : w.heap.size ≤ w'.heap.size
  os : w'.os = w.os
  tape : w'.tape = w.tape
  output : w'.output = w.output
  keep : ∀ b, b < w.heap.size → ¬ S b → Stays w G w' G' b
  sub : ∀ b, S' b → S b ∨ w.heap.size ≤ b

theorem Tr.refl {w : World} {G : Nat → Nat} {S S' : Nat → Prop} (h : ∀ b, S' b → S b) : Tr w G S w G S' :=
  ⟨Mono.refl w G, Nat.le_refl _, rfl, rfl, rfl, fun _ _ _ => ⟨rfl, rfl⟩, fun b hb => .inl (h b hb)⟩

theorem Tr.trans {w w1 w2 : World} {G G1 G2 : Nat → Nat} {S S1 S2 : Nat → Prop} (a : Tr w G S w1 G1 S1) (b : Tr w1 G1 S1 w2 G2 S2) : Tr w G S w2 G2 S2 where
  toMono := a.toMono.trans b.toMono
  size := Nat.le_trans a.size b.size
  os := b.os.trans a.os
  tape := b.tape.trans a.tape
  output := b.output.trans a.output
  keep := fun x hx hS => by
    have h1 := a.keep x hx hS
    have h2 := b.keep x (Nat.lt_of_lt_of_le hx a.size) (fun h => (a.sub x h).elim hS (fun h => absurd hx (by omega)))
    exact ⟨h2.blk.trans h1.blk, h2.fr.trans h1.fr⟩
  sub := fun x hx => (b.sub x hx).elim (a.sub x) (fun h => .inr (Nat.le_trans a.size h))

theorem Tr.weaken {w w' : World} {G G' : Nat → Nat} {S S1 S' S1' : Nat → Prop} (a : Tr w G S w' G' S') (h : ∀ b, S b → S1 b) (h' : ∀ b, S1' b → S' b) : Tr w G S1 w' G' S1' :=
  ⟨a.toMono, a.size, a.os, a.tape, a.output, fun x hx hS => a.keep x hx (fun hs => hS (h x hs)), fun x hx => (a.sub x (h' x hx)).imp (h x) id⟩

/-- A draw changes nothing that counts. -/
theorem Tr.drew {w : World} {G : Nat → Nat} {S : Nat → Prop} : Tr w G S { w with drawn := w.drawn + 1 } G S :=
  ⟨⟨fun _ => Nat.le_refl _, fun _ _ _ _ h => h⟩, Nat.le_refl _, rfl, rfl, rfl, fun _ _ _ => ⟨rfl, rfl⟩, fun _ hb => .inl hb⟩

/-! ### Owned values -/
theorem own_lt {C : Ctx} {w : World} {G : Nat → Nat} {ρ : List Nat} {a : AV} {v : Value} {g : Nat} (h : RelA C w G ρ a v) (hu : ub a v = some g) : g < w.heap.size := by
  obtain ⟨t, l, rfl⟩ := lent_of_ub hu
  simp only [RelA] at h
  simp only [ub] at hu
  rcases h with ⟨i, us, _, _, _, h4, _⟩ | ⟨_, a, rfl⟩
  · exact (h4.lt g (capBlock_own hu)).2
  · simp [capBlock] at hu

theorem add_at (b off j : Nat) : (⟨b, off, none⟩ : Addr).add j = ⟨b, off + j, none⟩ := by unfold Addr.add; split <;> simp_all

theorem OwnR_RelP {C : Ctx} {w : World} {G : Nat → Nat} {t : TypeId} {l : List PV} {v : Value} (h : OwnR C w G t l v) : RelP w G (.sl l) v := by
  obtain ⟨i, us, _, h2, h3, h4, h5⟩ := h
  have hl := RelPs_length h2
  simp only [RelP]
  rcases h4.2 with ⟨rfl, hn⟩ | ⟨g, cap, cur, rfl, hb, hg, hnc, hcm, hcs, htake⟩
  · have : l = [] := List.eq_nil_of_length_eq_zero hn
    exact ⟨none, 0, by rw [this]; rfl, by omega, .inl this⟩
  · refine ⟨_, cap, rfl, hnc, .inr ⟨g, 0, i.size, us, rfl, h2, h3, ?_, ?_⟩⟩
    · intro j u hj
      have := h4.cells (g := g) rfl j u hj
      rwa [add_at] at this
    · have := h5 g rfl
      omega

theorem OwnS_RelP {C : Ctx} {w : World} {G : Nat → Nat} {t : TypeId} {l : List PV} {v : Value} (h : OwnS C w G t l v) : RelP w G (.sl l) v := by
  rcases h with h | ⟨rfl, a, rfl⟩
  · exact OwnR_RelP h
  · simp only [RelP]
    exact ⟨some a, 0, rfl, by simp, .inl trivial⟩

theorem RelA_down {C : Ctx} {w : World} {G : Nat → Nat} {ρ : List Nat} {a : AV} {v : Value} (h : RelA C w G ρ a v) : RelA C w G ρ a.down v := by
  cases a with
  | own t l =>
    cases t with
    | none =>
      simp only [RelA] at h
      obtain ⟨rfl, rfl⟩ := h
      simp only [AV.down, RelA, RelP]
      exact ⟨none, 0, rfl, by simp, .inl (by simp)⟩
    | some t =>
      simp only [RelA] at h
      simp only [AV.down, RelA]
      exact OwnS_RelP h
  | _ => simpa [AV.down] using h

theorem lent_down (a : AV) : a.down.lent = true := by cases a <;> rfl
theorem lent_downN (a : AV) : a.downN.lent = true := by
  cases a with
  | own t l => cases t <;> rfl
  | _ => rfl

theorem RelA_downN {C : Ctx} {w : World} {G : Nat → Nat} {ρ : List Nat} {a : AV} {v : Value} (h : RelA C w G ρ a v) : RelA C w G ρ a.downN v := by
  cases a with
  | own t l =>
    cases t with
    | none => exact h
    | some t => exact RelA_down h
  | _ => exact h

theorem RelAs_down {C : Ctx} {w : World} {G : Nat → Nat} {ρ : List Nat} : ∀ {cs : List AV} {vs : List Value}, RelAs C w G ρ cs vs → RelAs C w G ρ (cs.map .down) vs
  | [], _, h => by simpa [RelAs] using h
  | a :: r, _, h => by
    simp only [RelAs, List.map_cons] at h ⊢
    obtain ⟨v, s, rfl, _, h1, h2⟩ := h
    exact ⟨v, s, rfl, lent_down a, RelA_down h1, RelAs_down h2⟩

theorem lent_deep (a : AV) : a.deep.lent = true := by cases a <;> rfl

theorem RelA_deep {C : Ctx} {w : World} {G : Nat → Nat} {ρ : List Nat} {a : AV} {v : Value} (h : RelA C w G ρ a v) : RelA C w G ρ a.deep v := by
  cases a with
  | own t l => exact RelA_down h
  | agg cs =>
    simp only [RelA, AV.deep] at h ⊢
    obtain ⟨vs, e, h1, h2⟩ := h
    exact ⟨vs, e, h1, RelAs_down h2⟩
  | _ => exact h

/-! ### Temporaries -/
theorem getElem?_set_or {α : Type} (l : List α) (i j : Nat) (x y : α) (h : (l.set i x)[j]? = some y) : (i = j ∧ y = x) ∨ (i ≠ j ∧ l[j]? = some y) := by
  rw [List.getElem?_set] at h
  split at h
  · rename_i e
    split at h
    · simp at h; exact .inl ⟨e, h.symm⟩
    · cases h
  · rename_i e
    exact .inr ⟨e, h⟩

theorem inv_down {C : Ctx} {w : World} {G : Nat → Nat} {ρ : List Nat} {t : List AV} {vs : List Value} {h : H} (I : Inv C w G ρ t vs h) (s : Option Tmp) :
    Inv C w G ρ (downT t s) vs h ∧ (∀ x g, OwnsAt w ρ (downT t s) vs h x g → OwnsAt w ρ t vs h x g ∧ ∀ i, s = some i → x ≠ .t i) := by
  cases s with
  | none => exact ⟨I, fun x g hx => ⟨hx, fun i hi => by cases hi⟩⟩
  | some i =>
    have key : ∀ x g, OwnsAt w ρ (downT t (some i)) vs h x g → OwnsAt w ρ t vs h x g ∧ ∀ j, some i = some j → x ≠ .t j := by
      intro x g hx
      cases x with
      | t j =>
        obtain ⟨a, v, ha, hv, hu⟩ := hx
        rcases getElem?_set_or _ _ _ _ _ ha with ⟨rfl, rfl⟩ | ⟨hne, ha⟩
        · rw [ub_lent (lent_down _)] at hu; cases hu
        · exact ⟨⟨a, v, ha, hv, hu⟩, fun k hk e => hne (by cases hk; cases e; rfl)⟩
      | o p j => exact ⟨hx, fun k _ e => by cases e⟩
    refine ⟨{ I with len := by simp [downT, I.len], rel := ?_, uniq := fun x y g hx hy => I.uniq x y g (key x g hx).1 (key y g hy).1, sep := fun x g hx => I.sep x g (key x g hx).1 }, key⟩
    intro j a v ha hv
    rcases getElem?_set_or _ _ _ _ _ ha with ⟨rfl, rfl⟩ | ⟨hne, ha⟩
    · have hl : i < t.length := by
        rw [I.len]
        rcases Nat.lt_or_ge i vs.length with h | h
        · exact h
        · rw [List.getElem?_eq_none h] at hv; cases hv
      exact RelA_down (I.rel i _ v (by rw [List.getD_eq_getElem?_getD, List.getElem?_eq_getElem hl]; rfl) hv)
    · exact I.rel j a v ha hv

theorem inv_put {C : Ctx} {w : World} {G : Nat → Nat} {ρ : List Nat} {t : List AV} {vs : List Value} {h : H} (I : Inv C w G ρ t vs h) (d : Nat) {a : AV} {v : Value}
    (hr : RelA C w G ρ a v) (ho : ∀ g, ub a v = some g → g ∉ ρ ∧ ∀ x, ¬ OwnsAt w ρ t vs h x g) :
    Inv C w G ρ (t.set d a) (vs.set d v) h ∧ ∀ x g, OwnsAt w ρ (t.set d a) (vs.set d v) h x g → (x = .t d ∧ ub a v = some g) ∨ OwnsAt w ρ t vs h x g := by
  have key : ∀ x g, OwnsAt w ρ (t.set d a) (vs.set d v) h x g → (x = .t d ∧ ub a v = some g) ∨ (OwnsAt w ρ t vs h x g ∧ x ≠ .t d) := by
    intro x g hx
    cases x with
    | t j =>
      obtain ⟨a', v', ha, hv, hu⟩ := hx
      rcases getElem?_set_or _ _ _ _ _ ha with ⟨rfl, rfl⟩ | ⟨hne, ha⟩
      · rcases getElem?_set_or _ _ _ _ _ hv with ⟨_, rfl⟩ | ⟨hne, _⟩
        · exact .inl ⟨rfl, hu⟩
        · exact absurd rfl hne
      · rcases getElem?_set_or _ _ _ _ _ hv with ⟨e, _⟩ | ⟨_, hv⟩
        · exact absurd e hne
        · exact .inr ⟨⟨a', v', ha, hv, hu⟩, fun e => hne (by cases e; rfl)⟩
    | o p j => exact .inr ⟨hx, fun e => by cases e⟩
  refine ⟨{ I with len := by simp [I.len], rel := ?_, uniq := ?_, sep := ?_ }, fun x g hx => (key x g hx).imp id And.left⟩
  · intro j a' v' ha hv
    rcases getElem?_set_or _ _ _ _ _ ha with ⟨rfl, rfl⟩ | ⟨hne, ha⟩
    · rcases getElem?_set_or _ _ _ _ _ hv with ⟨_, rfl⟩ | ⟨hne, _⟩
      · exact hr
      · exact absurd rfl hne
    · rcases getElem?_set_or _ _ _ _ _ hv with ⟨e, _⟩ | ⟨_, hv⟩
      · exact absurd e hne
      · exact I.rel j a' v' ha hv
  · intro x y g hx hy
    rcases key x g hx with ⟨rfl, hu⟩ | ⟨hx, nx⟩
    · rcases key y g hy with ⟨rfl, _⟩ | ⟨hy, _⟩
      · rfl
      · exact absurd hy ((ho g hu).2 y)
    · rcases key y g hy with ⟨rfl, hu⟩ | ⟨hy, _⟩
      · exact absurd hx ((ho g hu).2 x)
      · exact I.uniq x y g hx hy
  · intro x g hx
    rcases key x g hx with ⟨rfl, hu⟩ | ⟨hx, _⟩
    · exact (ho g hu).1
    · exact I.sep x g hx

/-- What an operation leaves. -/
def OpPost (C : Ctx) (w : World) (G : Nat → Nat) (ρ : List Nat) (t : List AV) (vs : List Value) (h : H) (r : AV) (h' : H) (t' : List AV) (v : Value) (w' : World) : Prop :=
  ∃ G' ρ', ρ <+: ρ' ∧ Inv C w' G' ρ' t' vs h' ∧ RelA C w' G' ρ' r v ∧
    (∀ g, ub r v = some g → g ∉ ρ' ∧ (∀ x, ¬ OwnsAt w' ρ' t' vs h' x g) ∧ (Touch w ρ t vs h g ∨ w.heap.size ≤ g)) ∧
    Tr w G (Touch w ρ t vs h) w' G' (Touch w' ρ' t' vs h')

theorem touch_down {C : Ctx} {w : World} {G : Nat → Nat} {ρ : List Nat} {t : List AV} {vs : List Value} {h : H} (I : Inv C w G ρ t vs h) (s : Option Tmp) (b : Nat)
    (hb : Touch w ρ (downT t s) vs h b) : Touch w ρ t vs h b := hb.imp id fun ⟨x, hx⟩ => ⟨x, ((inv_down I s).2 x b hx).1⟩

/-- An operation that only reckons. -/
theorem opPost_pure {C : Ctx} {w : World} {G : Nat → Nat} {ρ : List Nat} {t : List AV} {vs : List Value} {h : H} (I : Inv C w G ρ t vs h) (s : Option Tmp) {r : AV} {v : Value}
    (hr : RelA C w G ρ r v) (hl : r.lent = true) : OpPost C w G ρ t vs h r h (downT t s) v w :=
  ⟨G, ρ, List.prefix_refl _, (inv_down I s).1, hr, (fun g hg => by rw [ub_lent hl] at hg; cases hg), Tr.refl (touch_down I s)⟩

/-- A temporary's own goes on. -/
theorem opPost_move {C : Ctx} {w : World} {G : Nat → Nat} {ρ : List Nat} {t : List AV} {vs : List Value} {h : H} (I : Inv C w G ρ t vs h) {i : Nat} {a : AV} {v : Value}
    (ha : t[i]? = some a) (hv : vs[i]? = some v) : OpPost C w G ρ t vs h a h (downT t (some i)) v w := by
  refine ⟨G, ρ, List.prefix_refl _, (inv_down I (some i)).1, I.rel i a v ha hv, fun g hg => ?_, Tr.refl (touch_down I _)⟩
  have ho : OwnsAt w ρ t vs h (.t i) g := ⟨a, v, ha, hv, hg⟩
  refine ⟨I.sep _ g ho, fun x hx => ?_, .inl (.inr ⟨_, ho⟩)⟩
  obtain ⟨h1, h2⟩ := (inv_down I (some i)).2 x g hx
  exact h2 i rfl (I.uniq x _ g h1 ho)

end Go.AM
