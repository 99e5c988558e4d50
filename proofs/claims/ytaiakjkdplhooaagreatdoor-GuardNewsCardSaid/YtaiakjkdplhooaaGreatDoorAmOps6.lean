/- Slices: new ones, taken ones, extended ones. -/
import Derived.Test.YtaiakjkdplhooaaGreatDoorAmOps5
namespace Go.AM
open Go

section
variable {C : Ctx} {w w' : World} {G G' : Nat → Nat} {ρ : List Nat} {t : List AV} {vs : List Value} {h : H}

/-- A variable's own slice is taken out of it. -/
theorem opPost_take (I : Inv C w G ρ t vs h) {p off b : Nat} {cs : List AV} {a : AV} {v : Value} (hc : h[p]? = some cs) (ha : cs[off]? = some a) (hb : ρ[p]? = some b) (hv : w.cell? ⟨b, off, none⟩ = some v) :
    OpPost C w G ρ t vs h a (h.set p (cs.set off a.down)) t v w := by
  have hlt : p < h.length := getElem?_lt hc
  have hol : off < cs.length := getElem?_lt ha
  obtain ⟨us, ty, hh, hlen, hr⟩ := I.obj p cs b hc hb
  have hvu : us[off]? = some v := by rw [← cell_of_block hh]; exact hv
  obtain ⟨hra, hva⟩ := hr off a v ha hvu
  have key : ∀ x g, OwnsAt w ρ t vs (h.set p (cs.set off a.down)) x g → OwnsAt w ρ t vs h x g ∧ x ≠ .o p off := by
    intro x g hx
    cases x with
    | t i => exact ⟨hx, fun e => by cases e⟩
    | o q j =>
      obtain ⟨cs', b', a', v', h1, h2, h3, h4, h5⟩ := hx
      rcases getElem?_set_or _ _ _ _ _ h1 with ⟨rfl, rfl⟩ | ⟨hne, h1⟩
      · rcases getElem?_set_or _ _ _ _ _ h2 with ⟨rfl, rfl⟩ | ⟨hne, h2⟩
        · rw [ub_lent (lent_down a)] at h5; cases h5
        · exact ⟨⟨cs, b', a', v', hc, h2, h3, h4, h5⟩, fun e => hne (by cases e; rfl)⟩
      · exact ⟨⟨cs', b', a', v', h1, h2, h3, h4, h5⟩, fun e => hne (by cases e; rfl)⟩
  refine ⟨G, ρ, List.prefix_refl _, { hlen := by simp [I.hlen], obj := ?_, objG := I.objG, nodup := I.nodup, out := I.out, glob := I.glob, len := I.len, rel := I.rel, uniq := fun x y g hx hy => I.uniq x y g (key x g hx).1 (key y g hy).1, sep := fun x g hx => I.sep x g (key x g hx).1 }, hra, fun g hg => ?_, Tr.refl fun k hk => hk.imp id fun ⟨x, hx⟩ => ⟨x, (key x k hx).1⟩⟩
  · intro q cs' b' hc' hb'
    rcases getElem?_set_or _ _ _ _ _ hc' with ⟨rfl, rfl⟩ | ⟨hne, hc'⟩
    · rw [hb] at hb'; cases hb'
      refine ⟨us, ty, hh, by simp [hlen], fun j a' v' ha' hv' => ?_⟩
      rcases getElem?_set_or _ _ _ _ _ ha' with ⟨rfl, rfl⟩ | ⟨hne, ha'⟩
      · rw [hvu] at hv'; cases hv'
        exact ⟨RelA_down hra, hva⟩
      · exact hr j a' v' ha' hv'
    · exact I.obj q cs' b' hc' hb'
  · have ho : OwnsAt w ρ t vs h (.o p off) g := ⟨cs, b, a, v, hc, ha, hb, hv, hg⟩
    exact ⟨I.sep _ _ ho, fun x hx => (key x g hx).2 (I.uniq x _ g (key x g hx).1 ho), .inl (.inr ⟨_, ho⟩)⟩

theorem flat_one {us : List Value} {w : World} {G : Nat → Nat} {l : List PV} (h : RelPs w G l us) : ∀ c ∈ flat us, c.oneCell' = true := by
  intro c hc
  obtain ⟨u, hu, hc⟩ := List.mem_flatMap.1 hc
  obtain ⟨j, hj⟩ := List.mem_iff_getElem?.1 hu
  have hl := RelPs_length h
  have hlt : j < l.length := by rw [hl]; exact getElem?_lt hj
  obtain ⟨v, hv, hr⟩ := RelPs_get h (i := j) (p := l[j]) (by simp [hlt])
  rw [hj] at hv; cases hv
  exact (RelP_cells hr).2 c hc

/-- A draw. -/
theorem Inv.drew (I : Inv C w G ρ t vs h) : Inv C w.drew G ρ t vs h ∧ ∀ x g, OwnsAt w.drew ρ t vs h x g ↔ OwnsAt w ρ t vs h x g :=
  I.move (w' := w.drew) ⟨fun _ => Nat.le_refl _, fun _ _ _ _ h => h⟩ (fun _ _ _ => ⟨rfl, rfl⟩) (fun _ _ => rfl) I.objG I.out

theorem opPost_drew {r : AV} {h' : H} {t' : List AV} {v : Value} (hp : OpPost C w.drew G ρ t vs h r h' t' v w') : OpPost C w G ρ t vs h r h' t' v w' := by
  obtain ⟨G', ρ', h1, h2, h3, h4, h5⟩ := hp
  refine ⟨G', ρ', h1, h2, h3, h4, { toMono := ⟨h5.le, h5.cell⟩, size := h5.size, os := h5.os, tape := h5.tape, output := h5.output, keep := fun b hb hS => ?_, sub := h5.sub }⟩
  obtain ⟨a, b⟩ := h5.keep b hb hS
  exact ⟨a, b⟩

/-- A new row. -/
theorem opPost_row' (I : Inv C w G ρ t vs h) {e : TypeId} {i : TI} {l : List PV} {us : List Value} {cur : Array Value} {cap : Nat} (hi : C.ti e = some i) (hr : RelPs w G l us) (hk : ∀ u ∈ us, u.cells.size = i.size)
    (hcap : l.length ≤ cap) (hm : cap ≤ maxLen) (hsz : cur.size = cap * i.size) (htake : cur.toList.take (l.length * i.size) = flat us) :
    OpPost C w G ρ t vs h (.own (some e) l) h t (.slice (some ⟨w.heap.size, 0, none⟩) l.length cap) (w.alloc (.cells cur e)) := by
  let G' : Nat → Nat := fun b => if b = w.heap.size then (flat us).length else G b
  obtain ⟨I1, k1, m, hst⟩ := inv_alloc I (.cells cur e) G' (fun b hb => by simp [G', hb])
  have hlen := RelPs_length hr
  have hfl := flat_length hk
  refine ⟨G', ρ, List.prefix_refl _, I1, ?_, fun g hg => ?_, ?_⟩
  · simp only [RelA]
    refine .inl ⟨i, us, hi, RelPs_mono m _ _ hr, hk, ⟨by rw [hfl, hlen], .inr ⟨w.heap.size, cap, cur, rfl, Nat.zero_le _, heap_alloc w _, hcap, hm, hsz, htake⟩⟩, fun g hg => ?_⟩
    simp only [Value.ownBlock, Option.some.injEq] at hg
    subst hg
    simp [G']
  · simp only [ub] at hg
    have hg := capBlock_own hg
    simp only [Value.ownBlock, Option.some.injEq] at hg
    subst hg
    exact ⟨fun hm => absurd (mem_lt I hm) (Nat.lt_irrefl _), fun x hx => absurd (owns_lt I ((k1 x _).1 hx)) (Nat.lt_irrefl _), .inr (Nat.le_refl _)⟩
  · exact { toMono := m, size := by rw [World.size_alloc]; omega, os := rfl, tape := rfl, output := rfl, keep := fun b hb _ => hst b hb, sub := fun b hb => .inl (hb.imp id fun ⟨x, hx⟩ => ⟨x, (k1 x b).1 hx⟩) }

theorem opPost_row (I : Inv C w G ρ t vs h) {e : TypeId} {i : TI} {l : List PV} {us : List Value} (hi : C.ti e = some i) (hr : RelPs w G l us) (hk : ∀ u ∈ us, u.cells.size = i.size) (hm : l.length ≤ maxLen) :
    OpPost C w G ρ t vs h (.own (some e) l) h t (.slice (some ⟨w.heap.size, 0, none⟩) l.length l.length) (w.alloc (.cells (flat us).toArray e)) := by
  have hlen := RelPs_length hr
  have hfl := flat_length hk
  refine opPost_row' I hi hr hk (Nat.le_refl _) hm (by simp [hfl, hlen]) ?_
  show (flat us).take _ = _
  rw [List.take_of_length_le (by rw [hfl, hlen]; exact Nat.le_refl _)]

mutual
theorem toPV_rel : ∀ (a : AV) (p : PV) (v : Value), RelA C w G ρ a v → a.toPV = some p → RelP w G p v
  | .pv q, p, v, hr, hp => by simp only [AV.toPV, Option.some.injEq] at hp; subst hp; simpa only [RelA] using hr
  | .own t l, p, v, hr, hp => by
    simp only [AV.toPV, Option.some.injEq] at hp; subst hp
    have := RelA_down hr
    simpa only [AV.down, RelA] using this
  | .agg cs, p, v, hr, hp => by
    simp only [AV.toPV, Option.map_eq_some_iff] at hp
    obtain ⟨ps, hps, rfl⟩ := hp
    simp only [RelA] at hr
    obtain ⟨vs, rfl, h1, h2⟩ := hr
    simp only [RelP]
    exact ⟨vs, rfl, h1, toPVs_rel cs ps vs h2 hps⟩
  | .any, _, _, _, hp => by simp [AV.toPV] at hp
  | .tup _, _, _, _, hp => by simp [AV.toPV] at hp
  | .ptr _ _, _, _, _, hp => by simp [AV.toPV] at hp
  | .nilp, _, _, _, hp => by simp [AV.toPV] at hp
  | .view _, _, _, _, hp => by simp [AV.toPV] at hp
  | .fn _ _, _, _, _, hp => by simp [AV.toPV] at hp
  | .nilfn, _, _, _, hp => by simp [AV.toPV] at hp
  | .nili, _, _, _, hp => by simp [AV.toPV] at hp
  | .iface _ _, _, _, _, hp => by simp [AV.toPV] at hp
theorem toPVs_rel : ∀ (l : List AV) (ps : List PV) (vs : List Value), RelAs C w G ρ l vs → AV.toPVs l = some ps → RelPs w G ps vs
  | [], ps, vs, hr, hp => by
    simp only [AV.toPVs, Option.some.injEq] at hp; subst hp
    simpa only [RelAs, RelPs] using hr
  | a :: r, ps, vs, hr, hp => by
    simp only [RelAs] at hr
    obtain ⟨v, s, rfl, _, h1, h2⟩ := hr
    simp only [AV.toPVs] at hp
    split at hp
    · rename_i p ps' hp1 hp2
      simp only [Option.some.injEq] at hp
      subst hp
      simp only [RelPs]
      exact ⟨v, s, rfl, toPV_rel a p v h1 hp1, toPVs_rel r ps' s h2 hp2⟩
    · cases hp
end

/-- Elements in order: what 'fill' makes of them. -/
theorem elems_fill {size : Nat} : ∀ (ps : List (Nat × AV)) (qs : List (Nat × Value)) (i : Nat) (l : List PV) (cur : Array Value), ps.length = qs.length →
    (∀ (j : Nat) (p : Nat × AV) (q : Nat × Value), ps[j]? = some p → qs[j]? = some q → p.1 = q.1 ∧ RelA C w G ρ p.2 q.2) → elems size i ps = some l → (i + ps.length) * size ≤ cur.size →
    ∃ us out, Instr.fill (fun i => some (i * size, size)) cur qs = some out ∧ RelPs w G l us ∧ (∀ u ∈ us, u.cells.size = size) ∧
      out.toList = cur.toList.take (i * size) ++ flat us ++ cur.toList.drop ((i + ps.length) * size)
  | [], [], i, l, cur, _, _, h, _ => by
    simp only [elems, Option.some.injEq] at h
    subst h
    exact ⟨[], cur, rfl, by simp [RelPs], by simp, by simp [flat]⟩
  | [], _ :: _, _, _, _, h, _, _, _ => by simp at h
  | _ :: _, [], _, _, _, h, _, _, _ => by simp at h
  | (j, a) :: ps, (j', v) :: qs, i, l, cur, hlen, hrel, h, hsz => by
    obtain ⟨e, ha⟩ := hrel 0 (j, a) (j', v) rfl rfl
    simp only at e ha
    subst e
    rw [elems] at h
    split at h
    · rename_i p l' hp hl'
      split at h
      · rename_i hc
        simp only [Option.some.injEq] at h
        subst h
        obtain ⟨rfl, hps⟩ := hc
        have hrp := toPV_rel _ _ _ ha hp
        have hcells := RelP_cells hrp
        have hvs : v.cells.size = size := by
          have h7 := RelPs_length hcells.1
          rw [Array.length_toList] at h7
          exact h7.symm.trans hps
        simp only [List.length_cons] at hsz
        have hle : i * size + size ≤ cur.size := by
          have : (i + 1) * size ≤ (i + (ps.length + 1)) * size := Nat.mul_le_mul_right _ (by omega)
          rw [Nat.add_mul, Nat.one_mul] at this
          omega
        have hfold : (v.cells.zipIdx.foldl (fun cs (x : Value × Nat) => cs.setIfInBounds (i * size + x.2) x.1) cur).toList = spliceV cur.toList (i * size) v.cells.toList := by
          rw [← Array.foldl_toList, Array.toList_zipIdx, foldl_set (i * size) v.cells.toList 0 cur (by rw [Array.length_toList]; omega)]
          rfl
        have hsl : (spliceV cur.toList (i * size) v.cells.toList).length = cur.size := by
          simp only [spliceV, List.length_append, List.length_take, List.length_drop, Array.length_toList]
          omega
        obtain ⟨us, out, ho, hr, hk, hout⟩ := elems_fill ps qs (i + 1) l' (v.cells.zipIdx.foldl (fun cs (x : Value × Nat) => cs.setIfInBounds (i * size + x.2) x.1) cur) (by simpa using hlen)
          (fun j p q hp hq => hrel (j + 1) p q (by simpa using hp) (by simpa using hq)) hl' (by rw [← Array.length_toList, hfold, hsl]; rw [show i + 1 + ps.length = i + (ps.length + 1) by omega]; exact hsz)
        refine ⟨v :: us, out, ?_, ?_, ?_, ?_⟩
        · simp only [Instr.fill]
          rw [if_neg (by rw [hvs]; simp; omega)]
          exact ho
        · simp only [RelPs]; exact ⟨v, us, rfl, hrp, hr⟩
        · intro u hu
          rcases List.mem_cons.1 hu with rfl | hu
          · exact hvs
          · exact hk u hu
        · rw [hout, hfold]
          have e1 : (spliceV cur.toList (i * size) v.cells.toList).take ((i + 1) * size) = cur.toList.take (i * size) ++ v.cells.toList := by
            unfold spliceV
            rw [List.take_append_of_le_length (by simp only [List.length_append, List.length_take, Array.length_toList]; rw [Nat.add_mul]; omega), List.take_of_length_le]
            simp only [List.length_append, List.length_take, Array.length_toList]; rw [Nat.add_mul]; omega
          have e2 : (spliceV cur.toList (i * size) v.cells.toList).drop ((i + 1 + ps.length) * size) = cur.toList.drop ((i + (ps.length + 1)) * size) := by
            unfold spliceV
            have hlen2 : (cur.toList.take (i * size) ++ v.cells.toList).length = (i + 1) * size := by
              simp only [List.length_append, List.length_take, Array.length_toList]; rw [Nat.add_mul]; omega
            have e3 : (i + 1 + ps.length) * size = (cur.toList.take (i * size) ++ v.cells.toList).length + ps.length * size := by rw [hlen2, ← Nat.add_mul]
            rw [e3, List.drop_append, List.drop_drop]
            rw [List.drop_eq_nil_of_le (by omega), List.nil_append]
            congr 1
            rw [hlen2]
            simp only [Array.length_toList, hvs]
            have : (i + (ps.length + 1)) * size = (i + 1) * size + ps.length * size := by rw [← Nat.add_mul]; congr 1; omega
            rw [this, Nat.add_mul]
            omega
          rw [e1, e2]
          simp [flat, List.append_assoc]
      · cases h
    · cases h

end
end Go.AM
