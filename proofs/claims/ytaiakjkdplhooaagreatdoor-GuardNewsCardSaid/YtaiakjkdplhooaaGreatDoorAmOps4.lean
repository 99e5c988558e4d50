/- Operations on memory: new variables, stores. -/
import Derived.Test.YtaiakjkdplhooaaGreatDoorAmOps3
namespace Go.AM
open Go

section
variable {C : Ctx} {w w' : World} {G G' : Nat → Nat} {ρ : List Nat} {t : List AV} {vs : List Value} {h : H}

theorem getElem?_lt {α : Type} {l : List α} {i : Nat} {x : α} (h : l[i]? = some x) : i < l.length := (List.getElem?_eq_some_iff.1 h).1

/-- A world that leaves variables and owned rows alone. -/
theorem Inv.move (I : Inv C w G ρ t vs h) (m : Mono w G w' G') (hs : ∀ x g, OwnsAt w ρ t vs h x g → Stays w G w' G' g)
    (hρ : ∀ b ∈ ρ, w'.heap[b]? = w.heap[b]?) (hG : ∀ b ∈ ρ, G' b = 0) (hout : ∀ b, w'.heap.size ≤ b → G' b = 0) :
    Inv C w' G' ρ t vs h ∧ ∀ x g, OwnsAt w' ρ t vs h x g ↔ OwnsAt w ρ t vs h x g := by
  have hcell : ∀ (p b j : Nat), ρ[p]? = some b → w'.cell? ⟨b, j, none⟩ = w.cell? ⟨b, j, none⟩ := fun p b j hb => by
    simp [World.cell?, hρ b (List.mem_of_getElem? hb)]
  have key : ∀ x g, OwnsAt w' ρ t vs h x g ↔ OwnsAt w ρ t vs h x g := by
    intro x g
    cases x with
    | t i => exact Iff.rfl
    | o p j =>
      constructor
      · rintro ⟨cs, b, a, v, h1, h2, h3, h4, h5⟩
        exact ⟨cs, b, a, v, h1, h2, h3, by rw [← hcell p b j h3]; exact h4, h5⟩
      · rintro ⟨cs, b, a, v, h1, h2, h3, h4, h5⟩
        exact ⟨cs, b, a, v, h1, h2, h3, by rw [hcell p b j h3]; exact h4, h5⟩
  refine ⟨{ hlen := I.hlen, obj := ?_, objG := hG, nodup := I.nodup, out := hout, glob := ?_, len := I.len, rel := ?_, uniq := ?_, sep := ?_ }, key⟩
  · intro p cs b hc hb
    obtain ⟨us, ty, h1, h2, h3⟩ := I.obj p cs b hc hb
    refine ⟨us, ty, by rw [hρ b (List.mem_of_getElem? hb)]; exact h1, h2, fun j a v ha hv => ?_⟩
    obtain ⟨hr, ho⟩ := h3 j a v ha hv
    refine ⟨RelA_mono m (List.prefix_refl _) a v (fun g hg => hs (.o p j) g ⟨cs, b, a, v, hc, ha, hb, ?_, hg⟩) hr, ho⟩
    rw [cell_of_block h1]; exact hv
  · intro g
    obtain ⟨h1, h2⟩ := I.glob g
    exact ⟨h1, RelA_mono m (List.prefix_refl _) _ _ (fun g hg => by rw [ub_lent h1] at hg; cases hg) h2⟩
  · intro i a v ha hv
    exact RelA_mono m (List.prefix_refl _) a v (fun g hg => hs (.t i) g ⟨a, v, ha, hv, hg⟩) (I.rel i a v ha hv)
  · intro x y g hx hy
    exact I.uniq x y g ((key x g).1 hx) ((key y g).1 hy)
  · intro x g hx
    exact I.sep x g ((key x g).1 hx)

/-- One variable more. -/
theorem Inv.push (I : Inv C w G ρ t vs h) {b : Nat} {us : List Value} {ty : TypeId} {cs : List AV} (hb : w.heap[b]? = some (.cells us.toArray ty (0, 0))) (hn : b ∉ ρ) (hG : G b = 0)
    (ho : ∀ x, ¬ OwnsAt w ρ t vs h x b) (hc : RelC C w G ρ cs us) (hl : Lents cs) :
    Inv C w G (ρ ++ [b]) t vs (h ++ [cs]) ∧ ∀ x g, OwnsAt w (ρ ++ [b]) t vs (h ++ [cs]) x g → OwnsAt w ρ t vs h x g := by
  have hlen := I.hlen
  have hp : ρ <+: ρ ++ [b] := List.prefix_append _ _
  have lift : ∀ (a : AV) (v : Value), RelA C w G ρ a v → RelA C w G (ρ ++ [b]) a v := fun a v hr => RelA_mono (Mono.refl w G) hp a v (fun g _ => ⟨rfl, rfl⟩) hr
  have key : ∀ x g, OwnsAt w (ρ ++ [b]) t vs (h ++ [cs]) x g → OwnsAt w ρ t vs h x g := by
    intro x g hx
    cases x with
    | t i => exact hx
    | o p j =>
      obtain ⟨cs', b', a, v, h1, h2, h3, h4, h5⟩ := hx
      rcases Nat.lt_or_ge p h.length with hlt | hge
      · rw [List.getElem?_append_left hlt] at h1
        rw [List.getElem?_append_left (by omega)] at h3
        exact ⟨cs', b', a, v, h1, h2, h3, h4, h5⟩
      · rw [List.getElem?_append_right hge] at h1
        have hc' := List.mem_of_getElem? h1
        simp only [List.mem_singleton] at hc'
        subst hc'
        rw [ub_lent (hl a (List.mem_of_getElem? h2))] at h5
        cases h5
  refine ⟨{ hlen := by simp [hlen], obj := ?_, objG := ?_, nodup := ?_, out := I.out, glob := fun g => ⟨(I.glob g).1, lift _ _ (I.glob g).2⟩, len := I.len,
            rel := fun i a v ha hv => lift a v (I.rel i a v ha hv), uniq := fun x y g hx hy => I.uniq x y g (key x g hx) (key y g hy), sep := ?_ }, key⟩
  · intro p cs' b' hc' hb'
    rcases Nat.lt_or_ge p h.length with hlt | hge
    · rw [List.getElem?_append_left hlt] at hc'
      rw [List.getElem?_append_left (by omega)] at hb'
      obtain ⟨us', ty', h1, h2, h3⟩ := I.obj p cs' b' hc' hb'
      exact ⟨us', ty', h1, h2, fun j a v ha hv => ⟨lift a v (h3 j a v ha hv).1, (h3 j a v ha hv).2⟩⟩
    · rw [List.getElem?_append_right hge] at hc'
      rw [List.getElem?_append_right (by omega)] at hb'
      have e1 := List.mem_of_getElem? hc'
      have e2 := List.mem_of_getElem? hb'
      simp only [List.mem_singleton] at e1 e2
      subst e1; subst e2
      exact ⟨us, ty, hb, hc.1, fun j a v ha hv => ⟨lift a v (hc.2 j a v ha hv).1, (hc.2 j a v ha hv).2⟩⟩
  · intro x hx
    rcases List.mem_append.1 hx with hx | hx
    · exact I.objG x hx
    · simp only [List.mem_singleton] at hx; subst hx; exact hG
  · rw [List.nodup_append]
    exact ⟨I.nodup, by simp, fun x hx y hy e => by simp only [List.mem_singleton] at hy; subst hy; subst e; exact hn hx⟩
  · intro x g hx hg
    have := key x g hx
    rcases List.mem_append.1 hg with hg | hg
    · exact I.sep x g this hg
    · simp only [List.mem_singleton] at hg; subst hg; exact ho x this

theorem heap_alloc (w : World) (o : Obj) : (w.alloc o).heap[w.heap.size]? = some o := by show (w.heap.push o)[w.heap.size]? = some o; simp
theorem heap_alloc_lt (w : World) (o : Obj) {b : Nat} (h : b < w.heap.size) : (w.alloc o).heap[b]? = w.heap[b]? := by
  show (w.heap.push o)[b]? = _
  simp [Array.getElem?_push, Nat.ne_of_lt h]

theorem mem_lt (I : Inv C w G ρ t vs h) {b : Nat} (hb : b ∈ ρ) : b < w.heap.size := by
  obtain ⟨p, hp⟩ := List.mem_iff_getElem?.1 hb
  have hlt : p < h.length := by rw [I.hlen]; exact getElem?_lt hp
  obtain ⟨us, ty, h1, _⟩ := I.obj p h[p] b (by simp [hlt]) hp
  exact (Array.getElem?_eq_some_iff.1 h1).1

theorem owns_lt (I : Inv C w G ρ t vs h) {x : Loc} {g : Nat} (hx : OwnsAt w ρ t vs h x g) : g < w.heap.size := by
  cases x with
  | t i =>
    obtain ⟨a, v, ha, hv, hu⟩ := hx
    exact own_lt (I.rel i a v ha hv) hu
  | o p j =>
    obtain ⟨cs, b, a, v, h1, h2, h3, h4, h5⟩ := hx
    obtain ⟨us, ty, hh, _, hr⟩ := I.obj p cs b h1 h3
    rw [cell_of_block hh] at h4
    exact own_lt (hr j a v h2 h4).1 h5

theorem touch_lt (I : Inv C w G ρ t vs h) {b : Nat} (hb : Touch w ρ t vs h b) : b < w.heap.size :=
  hb.elim (mem_lt I) fun ⟨_, hx⟩ => owns_lt I hx

/-- A new block: all else stays. -/
theorem inv_alloc (I : Inv C w G ρ t vs h) (o : Obj) (G' : Nat → Nat) (hG' : ∀ b, b ≠ w.heap.size → G' b = G b) :
    Inv C (w.alloc o) G' ρ t vs h ∧ (∀ x g, OwnsAt (w.alloc o) ρ t vs h x g ↔ OwnsAt w ρ t vs h x g) ∧ Mono w G (w.alloc o) G' ∧
      (∀ b, b < w.heap.size → Stays w G (w.alloc o) G' b) := by
  have hst : ∀ b, b < w.heap.size → Stays w G (w.alloc o) G' b := fun b hb => ⟨heap_alloc_lt w o hb, hG' b (Nat.ne_of_lt hb)⟩
  have m : Mono w G (w.alloc o) G' := by
    refine ⟨fun b => ?_, fun b f v _ hv => ?_⟩
    · by_cases e : b = w.heap.size
      · subst e; rw [I.out _ (Nat.le_refl _)]; exact Nat.zero_le _
      · rw [hG' b e]; exact Nat.le_refl _
    · have hb := World.block_lt_of_cell? w _ hv
      simp only [World.cell?, heap_alloc_lt w o hb]
      exact hv
  obtain ⟨h1, h2⟩ := I.move (w' := w.alloc o) (G' := G') m (fun x g hx => hst g (owns_lt I hx)) (fun b hb => heap_alloc_lt w o (mem_lt I hb)) (fun b hb => by
    rw [hG' b (Nat.ne_of_lt (mem_lt I hb))]; exact I.objG b hb) (fun b hb => by
    have : b ≠ w.heap.size := by intro e; subst e; rw [World.size_alloc] at hb; omega
    rw [hG' b this]; exact I.out b (by rw [World.size_alloc] at hb; omega))
  exact ⟨h1, h2, m, hst⟩

/-- A new variable. -/
theorem opPost_new (I : Inv C w G ρ t vs h) {us : List Value} {cs : List AV} (ty : TypeId) (hc : RelC C w G ρ cs us) (hl : Lents cs) :
    OpPost C w G ρ t vs h (.ptr h.length 0) (h ++ [cs]) t (.pointer (some ⟨w.heap.size, 0, none⟩)) (w.alloc (.cells us.toArray ty)) := by
  obtain ⟨I1, k1, m, hst⟩ := inv_alloc I (.cells us.toArray ty) G (fun _ _ => rfl)
  have hnot : w.heap.size ∉ ρ := fun hm => absurd (mem_lt I hm) (Nat.lt_irrefl _)
  have hc1 : RelC C (w.alloc (.cells us.toArray ty)) G ρ cs us := ⟨hc.1, fun j a v ha hv => ⟨RelA_mono m (List.prefix_refl _) a v (fun g hg => by
    rw [ub_lent (hl a (List.mem_of_getElem? ha))] at hg; cases hg) (hc.2 j a v ha hv).1, (hc.2 j a v ha hv).2⟩⟩
  obtain ⟨I2, k2⟩ := I1.push (heap_alloc w _) hnot (I.out _ (Nat.le_refl _)) (fun x hx => absurd (owns_lt I ((k1 x _).1 hx)) (Nat.lt_irrefl _)) hc1 hl
  refine ⟨G, ρ ++ [w.heap.size], List.prefix_append _ _, I2, ?_, fun g hg => by simp [ub] at hg, ?_⟩
  · simp only [RelA]
    exact ⟨w.heap.size, by rw [I.hlen]; simp, rfl⟩
  · refine { toMono := m, size := by rw [World.size_alloc]; omega, os := rfl, tape := rfl, output := rfl, keep := fun b hb _ => hst b hb, sub := fun b hb => ?_ }
    rcases hb with hb | ⟨x, hx⟩
    · rcases List.mem_append.1 hb with hb | hb
      · exact .inl (.inl hb)
      · simp only [List.mem_singleton] at hb; subst hb; exact .inr (Nat.le_refl _)
    · exact .inl (.inr ⟨x, (k1 x b).1 (k2 x b hx)⟩)

end
end Go.AM
