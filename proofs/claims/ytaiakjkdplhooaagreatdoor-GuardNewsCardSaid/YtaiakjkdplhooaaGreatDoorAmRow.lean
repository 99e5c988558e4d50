/- From the abstract machine's answer to the model's call, where nothing is handed in but what is lent. -/
import Derived.Test.YtaiakjkdplhooaaGreatDoorAmExt
import Derived.ChangeSame
namespace Go.AM
open Go

/-- What a call leaves of a world: all that was there. -/
structure Left0 (w w' : World) : Prop where
  size : w.heap.size ≤ w'.heap.size
  os : w'.os = w.os
  tape : w'.tape = w.tape
  output : w'.output = w.output
  old : ∀ b, b < w.heap.size → w'.heap[b]? = w.heap[b]?

theorem touch_none {w : World} {av : List AV} {vs : List Value} (hl : ∀ a ∈ av, a.lent = true) (b : Nat) : ¬ Touch w [] av vs [] b := by
  rintro (h | ⟨x, hx⟩)
  · cases h
  · cases x with
    | t i =>
      obtain ⟨a, v, ha, _, hu⟩ := hx
      rw [ub_lent (hl a (List.mem_of_getElem? ha))] at hu
      cases hu
    | o p j =>
      obtain ⟨cs, _, _, _, h, _⟩ := hx
      simp at h

theorem calls_of_does {C : Ctx} {f : FuncId} {av : List AV} {r : AV} {h' : H} (hF : FnDoes C f av [] r h') {w : World} {G : Nat → Nat} {vs : List Value} (I : Inv C w G [] av vs []) (hl : ∀ a ∈ av, a.lent = true)
    (he : ∀ w, (callFunc f vs.toArray).run C.P w = .ok (.enter f vs.toArray) w) : Calls C.P f vs.toArray w fun e w' => ∃ v G' ρ', e = .returned v ∧ RelA C w' G' ρ' r v ∧ Left0 w w' := by
  rcases hF w G [] vs I with ⟨_, h2⟩ | ⟨v, w', h1, _⟩
  · refine Calls.mono h2 ?_
    rintro e w' ⟨v, rfl, G', ρ', _, J, T⟩
    exact ⟨v, G', ρ', rfl, J.rel 0 r v rfl rfl, T.size, T.os, T.tape, T.output, fun b hb => (T.keep b hb (touch_none hl b)).blk⟩
  · rw [he] at h1
    cases h1

theorem Left0.kept {w w' : World} (h : Left0 w w') (may : MemPlace → Prop) : w.keptBut w' may := by
  refine ⟨h.os, h.output, fun i hi => ?_⟩
  rw [h.old i hi]
  cases hx : w.heap[i]? with
  | none => simp
  | some o => cases o <;> simp

theorem inv0 {C : Ctx} {w : World} {G : Nat → Nat} {av : List AV} {vs : List Value} (hlen : av.length = vs.length) (hl : ∀ a ∈ av, a.lent = true)
    (hrel : ∀ (i : Nat) (a : AV) (v : Value), av[i]? = some a → vs[i]? = some v → RelA C w G [] a v) (hout : ∀ b, w.heap.size ≤ b → G b = 0)
    (hglob : ∀ g, (C.glob g).lent = true ∧ RelA C w G [] (C.glob g) (.pointer (some ⟨g, 0, none⟩))) : Inv C w G [] av vs [] := by
  have hn : ∀ x g, ¬ OwnsAt w [] av vs [] x g := fun x g hx => touch_none hl g (.inr ⟨x, hx⟩)
  exact { hlen := rfl, obj := (fun p cs b h => by simp at h), objG := (fun b hb => by cases hb), nodup := List.nodup_nil, out := hout, glob := hglob, len := hlen, rel := hrel,
          uniq := fun x y g hx => absurd hx (hn x g), sep := fun x g hx => absurd hx (hn x g) }

/-- A table of bytes in a package's variable. -/
theorem view_bytes {C : Ctx} {w : World} {G : Nat → Nat} {b : Nat} {zs : List Int} (h : ∀ (j : Nat) (z : Int), zs[j]? = some z → w.cell? ⟨b, j, none⟩ = some (.int .u8 z)) (hG : zs.length ≤ G b) :
    RelA C w G [] (.view (zs.map fun z => .int .u8 z)) (.pointer (some ⟨b, 0, none⟩)) := by
  simp only [RelA]
  refine ⟨b, 0, zs.map fun z => .int .u8 z, rfl, ?_, by simp [Value.oneCell'], ?_, by simpa using hG⟩
  · clear h hG
    induction zs with
    | nil => simp [RelPs]
    | cons z zs ih => simp only [List.map_cons, RelPs, RelP]; exact ⟨_, _, rfl, rfl, ih⟩
  · intro j v hj
    rw [List.getElem?_map] at hj
    obtain ⟨z, hz, rfl⟩ := Option.map_eq_some_iff.1 hj
    rw [Nat.zero_add]
    exact h j z hz

end Go.AM
