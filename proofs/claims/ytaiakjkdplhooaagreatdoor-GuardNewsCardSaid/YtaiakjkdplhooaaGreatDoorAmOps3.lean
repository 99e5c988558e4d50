/- Structs and arrays that are built; lengths; conversions that only reckon. -/
import Derived.Test.YtaiakjkdplhooaaGreatDoorAmOps2
import Derived.Laws.BytesArg
import Derived.Laws.Small
namespace Go.AM
open Go

section
variable {C : Ctx} {w : World} {G : Nat → Nat} {ρ : List Nat}

theorem relA_cells {a : AV} {v : Value} {cs : List AV} (h : RelA C w G ρ a v) (hc : a.cells? = some cs) :
    cs.length = v.cells.size ∧ ∀ (j : Nat) (b : AV) (u : Value), cs[j]? = some b → v.cells.toList[j]? = some u → RelA C w G ρ b u ∧ u.oneCell' = true := by
  have one : ∀ {a : AV} {v : Value}, RelA C w G ρ a v → v.oneCell' = true → a.cells? = some [a] → [a].length = v.cells.size ∧ ∀ (j : Nat) (b : AV) (u : Value), [a][j]? = some b → v.cells.toList[j]? = some u → RelA C w G ρ b u ∧ u.oneCell' = true := by
    intro a v h h1 _
    rw [one_cells h1]
    refine ⟨rfl, fun j b u hb hu => ?_⟩
    cases j with
    | zero => simp at hb hu; subst hb; subst hu; exact ⟨h, h1⟩
    | succ j => simp at hb
  cases a with
  | any => simp [AV.cells?] at hc
  | tup => simp [AV.cells?] at hc
  | agg l =>
    simp only [AV.cells?, Option.some.injEq] at hc
    subst hc
    simp only [RelA] at h
    obtain ⟨vs, rfl, h1, h2⟩ := h
    have hl := RelAs_length h2
    refine ⟨by simpa [Value.cells] using hl, fun j b u hb hu => ?_⟩
    simp only [Value.cells] at hu
    obtain ⟨u', hu', _, hr⟩ := RelAs_get h2 hb
    rw [hu] at hu'; cases hu'
    exact ⟨hr, h1 u (List.mem_of_getElem? hu)⟩
  | pv p =>
    cases p with
    | agg l =>
      simp only [AV.cells?, Option.some.injEq] at hc
      subst hc
      simp only [RelA] at h
      obtain ⟨h1, h2⟩ := RelP_cells h
      have hl := RelPs_length h1
      refine ⟨by simpa [PV.cells] using hl, fun j b u hb hu => ?_⟩
      rw [List.getElem?_map] at hb
      obtain ⟨p, hp, rfl⟩ := Option.map_eq_some_iff.1 hb
      obtain ⟨u', hu', hr⟩ := RelPs_get h1 (by simpa [PV.cells] using hp)
      rw [hu] at hu'; cases hu'
      exact ⟨by simpa only [RelA] using hr, h2 u (List.mem_of_getElem? hu)⟩
    | int k n => simp only [AV.cells?, Option.some.injEq] at hc; subst hc; exact one h (by rw [relA_int h]; rfl) rfl
    | bool b => simp only [AV.cells?, Option.some.injEq] at hc; subst hc; exact one h (by rw [relA_bool h]; rfl) rfl
    | str s => simp only [AV.cells?, Option.some.injEq] at hc; subst hc; exact one h (by rw [relA_str h]; rfl) rfl
    | sl l =>
      simp only [AV.cells?, Option.some.injEq] at hc; subst hc
      refine one h ?_ rfl
      simp only [RelA, RelP] at h
      obtain ⟨_, _, rfl, _⟩ := h; rfl
  | own t l =>
    simp only [AV.cells?, Option.some.injEq] at hc; subst hc
    refine one h ?_ rfl
    cases t with
    | none => simp only [RelA] at h; rw [h.2]; rfl
    | some t =>
      simp only [RelA] at h
      rcases h with ⟨_, _, _, _, _, h4, _⟩ | ⟨_, a0, rfl⟩
      · rcases h4.2 with ⟨rfl, _⟩ | ⟨_, _, _, rfl, _⟩ <;> rfl
      · rfl
  | ptr o f => simp only [AV.cells?, Option.some.injEq] at hc; subst hc; exact one h (by simp only [RelA] at h; obtain ⟨_, _, rfl⟩ := h; rfl) rfl
  | nilp => simp only [AV.cells?, Option.some.injEq] at hc; subst hc; exact one h (by simp only [RelA] at h; subst h; rfl) rfl
  | view cs => simp only [AV.cells?, Option.some.injEq] at hc; subst hc; exact one h (by simp only [RelA] at h; obtain ⟨_, _, _, rfl, _⟩ := h; rfl) rfl
  | fn f c => simp only [AV.cells?, Option.some.injEq] at hc; subst hc; exact one h (by simp only [RelA] at h; obtain ⟨_, rfl, _⟩ := h; rfl) rfl
  | nilfn => simp only [AV.cells?, Option.some.injEq] at hc; subst hc; exact one h (by simp only [RelA] at h; subst h; rfl) rfl
  | nili => simp only [AV.cells?, Option.some.injEq] at hc; subst hc; exact one h (by simp only [RelA] at h; subst h; rfl) rfl
  | iface t a => simp only [AV.cells?, Option.some.injEq] at hc; subst hc; exact one h (by simp only [RelA] at h; obtain ⟨_, rfl, _⟩ := h; rfl) rfl

/-- Cells: as many, each as it should be. -/
def RelC (C : Ctx) (w : World) (G : Nat → Nat) (ρ : List Nat) (cs : List AV) (us : List Value) : Prop :=
  cs.length = us.length ∧ ∀ (j : Nat) (a : AV) (v : Value), cs[j]? = some a → us[j]? = some v → RelA C w G ρ a v ∧ v.oneCell' = true

/-- What a list of values looks like behind writing some others over it. -/
def spliceV (us : List Value) (off : Nat) (vs : List Value) : List Value := us.take off ++ vs ++ us.drop (off + vs.length)

theorem splice_get {α : Type} (us vs : List α) (off j : Nat) (h : off + vs.length ≤ us.length) :
    (us.take off ++ vs ++ us.drop (off + vs.length))[j]? = if off ≤ j ∧ j < off + vs.length then vs[j - off]? else us[j]? := by
  have hlen : (us.take off).length = off := by simp; omega
  by_cases h1 : j < off
  · rw [if_neg (by omega), List.append_assoc, List.getElem?_append_left (by omega), List.getElem?_take_of_lt h1]
  · by_cases h2 : j < off + vs.length
    · rw [if_pos ⟨by omega, h2⟩, List.append_assoc, List.getElem?_append_right (by omega), hlen, List.getElem?_append_left (by omega)]
    · rw [if_neg (by omega), List.getElem?_append_right (by rw [List.length_append, hlen]; omega), List.length_append, hlen, List.getElem?_drop]
      congr 1; omega

theorem relC_splice {cs vs : List AV} {us ws : List Value} {off : Nat} (h1 : RelC C w G ρ cs us) (h2 : RelC C w G ρ vs ws) (hl : off + vs.length ≤ cs.length) : RelC C w G ρ (splice cs off vs) (spliceV us off ws) := by
  obtain ⟨l1, r1⟩ := h1
  obtain ⟨l2, r2⟩ := h2
  refine ⟨?_, fun j a v ha hv => ?_⟩
  · simp only [splice, spliceV, List.length_append, List.length_take, List.length_drop, l1, l2]
  · unfold splice at ha
    unfold spliceV at hv
    rw [splice_get _ _ _ _ hl] at ha
    rw [splice_get _ _ _ _ (by omega)] at hv
    by_cases h : off ≤ j ∧ j < off + vs.length
    · rw [if_pos h] at ha
      rw [if_pos (by omega)] at hv
      exact r2 _ a v ha hv
    · rw [if_neg h] at ha
      rw [if_neg (by omega)] at hv
      exact r1 _ a v ha hv

/-- Writing cell by cell. -/
theorem foldl_set (off : Nat) : ∀ (vs : List Value) (k : Nat) (us : Array Value), off + k + vs.length ≤ us.size →
    ((vs.zipIdx k).foldl (fun cs (x : Value × Nat) => cs.setIfInBounds (off + x.2) x.1) us).toList = spliceV us.toList (off + k) vs
  | [], k, us, _ => by simp [spliceV]
  | v :: vs, k, us, h => by
    simp only [List.length_cons] at h
    rw [List.zipIdx_cons, List.foldl_cons, foldl_set off vs (k + 1) _ (by simp; omega)]
    apply List.ext_getElem?
    intro j
    unfold spliceV
    rw [splice_get _ _ _ _ (by simp; omega), splice_get _ _ _ _ (by simp; omega)]
    rw [Array.toList_setIfInBounds, List.getElem?_set]
    simp only [List.length_cons]
    have hsz : off + k < us.toList.length := by simp; omega
    by_cases h1 : j = off + k
    · subst h1
      rw [if_neg (by omega), if_pos rfl, if_pos hsz, if_pos ⟨by omega, by omega⟩, Nat.sub_self]; rfl
    · by_cases h2 : off + k < j ∧ j < off + k + (vs.length + 1)
      · rw [if_pos ⟨by omega, by omega⟩, if_pos ⟨by omega, by omega⟩]
        have : j - (off + k) = (j - (off + (k + 1))) + 1 := by omega
        rw [this, List.getElem?_cons_succ]
      · rw [if_neg (by omega), if_neg (by omega), if_neg (by omega)]

def Lents (cs : List AV) : Prop := ∀ a ∈ cs, a.lent = true

theorem relAs_lents {cs : List AV} {vs : List Value} (h : RelAs C w G ρ cs vs) : Lents cs := by
  intro a ha
  obtain ⟨i, hi⟩ := List.mem_iff_getElem?.1 ha
  obtain ⟨_, _, hl, _⟩ := RelAs_get h hi
  exact hl

theorem cells_lents {a : AV} {v : Value} {cs : List AV} (h : RelA C w G ρ a v) (hl : a.lent = true) (hc : a.cells? = some cs) : Lents cs := by
  cases a with
  | any => simp [AV.cells?] at hc
  | tup => simp [AV.cells?] at hc
  | agg l =>
    simp only [AV.cells?, Option.some.injEq] at hc; subst hc
    simp only [RelA] at h
    obtain ⟨vs, _, _, h2⟩ := h
    exact relAs_lents h2
  | pv p => cases p <;> simp only [AV.cells?, Option.some.injEq] at hc <;> subst hc <;> intro b hb
            case agg => obtain ⟨p, _, rfl⟩ := List.mem_map.1 hb; rfl
            all_goals (simp at hb; subst hb; rfl)
  | own t l => simp only [AV.cells?, Option.some.injEq] at hc; subst hc; intro b hb; simp at hb; subst hb; exact hl
  | _ => simp only [AV.cells?, Option.some.injEq] at hc; subst hc; intro b hb; simp at hb; subst hb; rfl

theorem lents_splice {cs vs : List AV} {off : Nat} (h1 : Lents cs) (h2 : Lents vs) : Lents (splice cs off vs) := by
  intro a ha
  simp only [splice, List.mem_append] at ha
  rcases ha with (ha | ha) | ha
  · exact h1 a (List.mem_of_mem_take ha)
  · exact h2 a ha
  · exact h1 a (List.mem_of_mem_drop ha)

theorem relC_relAs {cs : List AV} {us : List Value} (h : RelC C w G ρ cs us) (hl : Lents cs) : RelAs C w G ρ cs us :=
  RelAs_of_get h.1 fun i a v ha hv => ⟨hl a (List.mem_of_getElem? ha), (h.2 i a v ha hv).1⟩

theorem relC_one {cs : List AV} {us : List Value} (h : RelC C w G ρ cs us) : ∀ c ∈ us, c.oneCell' = true := by
  intro c hc
  obtain ⟨j, hj⟩ := List.mem_iff_getElem?.1 hc
  have hlt : j < cs.length := by rw [h.1]; exact (List.getElem?_eq_some_iff.1 hj).1
  exact (h.2 j cs[j] c (by simp [hlt]) hj).2

theorem fill_sound {place : Nat → Option (Nat × Nat)} : ∀ (ps : List (Nat × AV)) (qs : List (Nat × Value)) (cs r : List AV) (us : Array Value), ps.length = qs.length →
    (∀ (j : Nat) (p : Nat × AV) (q : Nat × Value), ps[j]? = some p → qs[j]? = some q → p.1 = q.1 ∧ p.2.lent = true ∧ RelA C w G ρ p.2 q.2) →
    RelC C w G ρ cs us.toList → Lents cs → afill place cs ps = some r → ∃ out, Instr.fill place us qs = some out ∧ RelC C w G ρ r out.toList ∧ Lents r
  | [], [], cs, r, us, _, _, hr, hl, h => by
    simp only [afill, Option.some.injEq] at h
    subst h
    exact ⟨us, rfl, hr, hl⟩
  | [], _ :: _, _, _, _, h, _, _, _, _ => by simp at h
  | _ :: _, [], _, _, _, h, _, _, _, _ => by simp at h
  | (i, a) :: ps, (i', v) :: qs, cs, r, us, hlen, hrel, hr, hl, h => by
    obtain ⟨e, hal, ha⟩ := hrel 0 (i, a) (i', v) rfl rfl
    simp only at e hal ha
    subst e
    rw [afill] at h
    split at h
    · rename_i off size vs hp hv
      split at h
      · rename_i hs
        obtain ⟨h1, h2⟩ := relA_cells ha hv
        have hV : RelC C w G ρ vs v.cells.toList := ⟨by rw [h1, Array.length_toList], h2⟩
        have hsz : us.size = cs.length := by rw [hr.1, Array.length_toList]
        have hcond : ¬ (v.cells.size ≠ size ∨ off + v.cells.size > us.size) := by
          rw [← h1, hsz]; omega
        have hfold : (v.cells.zipIdx.foldl (fun cs (x : Value × Nat) => cs.setIfInBounds (off + x.2) x.1) us).toList = spliceV us.toList off v.cells.toList := by
          rw [← Array.foldl_toList, Array.toList_zipIdx, foldl_set off v.cells.toList 0 us (by rw [Array.length_toList, ← h1, hsz]; omega)]
          rfl
        obtain ⟨out, ho, hro, hlo⟩ := fill_sound ps qs (splice cs off vs) r (v.cells.zipIdx.foldl (fun cs (x : Value × Nat) => cs.setIfInBounds (off + x.2) x.1) us) (by simpa using hlen)
          (fun j p q hp hq => hrel (j + 1) p q (by simpa using hp) (by simpa using hq)) (by rw [hfold]; exact relC_splice hr hV hs.2) (lents_splice hl (cells_lents ha hal hv)) h
        refine ⟨out, ?_, hro, hlo⟩
        simp only [Instr.fill, hp]
        rw [if_neg (by simpa using hcond)]
        exact ho
      · cases h
    · cases h

theorem zero_rel {t : TypeId} {i : TI} (hi : C.ti t = some i) : ∃ z, (zeroValue t).run C.P w = .ok z w ∧ RelC C w G ρ i.zero z.cells.toList ∧ Lents i.zero ∧ z.cells.size = i.size ∧ zeroFits i.k i.size z = true := by
  obtain ⟨x, z, h1, h2, h3, h4, h5, h6, h7, _⟩ := ti_info hi
  have hone : ∀ c ∈ z.cells.toList, c.oneCell' = true := by
    intro c hc
    cases z <;> simp [zeroFits, Value.cells] at h5 hc <;> first | (subst hc; rfl) | skip
    rename_i cs
    have := h5.2
    obtain ⟨j, hj, rfl⟩ := Array.mem_iff_getElem.1 hc
    have := this j hj
    revert this
    cases cs[j] <;> simp [Value.oneCell']
  have hsz : z.cells.size = i.size := by
    cases z <;> simp [zeroFits, Value.cells] at h5 ⊢ <;> first | exact h5.2.symm | exact h5.1.2 | omega
  refine ⟨z, by simp [zeroValue, run_typeInfo w h1, h4], ⟨by rw [h6]; simp, fun j a v ha hv => ?_⟩, ?_, hsz, h5⟩
  · rw [h6, List.getElem?_map] at ha
    obtain ⟨v', hv', rfl⟩ := Option.map_eq_some_iff.1 ha
    rw [hv] at hv'; cases hv'
    exact ⟨(rel_cst C w G ρ v).2, hone v (List.mem_of_getElem? hv)⟩
  · intro a ha
    rw [h6] at ha
    obtain ⟨v, _, rfl⟩ := List.mem_map.1 ha
    exact (rel_cst C w G ρ v).1

theorem szs_run : ∀ (fs : List Field) (l : List (Nat × Nat)), szs C (fs.map fun f => (f.offset, f.type)) = some l →
    (fs.mapM fun f => (do pure (f.offset, ← sizeOf f.type) : Sem (Nat × Nat))).run C.P w = .ok l w
  | [], l, h => by simp only [List.map_nil, szs, Option.some.injEq] at h; subst h; rfl
  | f :: fs, l, h => by
    simp only [List.map_cons, szs] at h
    split at h
    · rename_i i l' hi hl
      simp only [Option.some.injEq] at h
      subst h
      have ih := szs_run fs l' hl
      simp only [List.mapM_cons, Sem.run_bind, ti_size hi, Result.andThen_ok, Sem.run_pure, ih]
    · cases h

theorem yields_abuild {t : TypeId} {ps : List (Nat × AV)} {qs : Array (Nat × Value)} {r : AV} (hlen : ps.length = qs.toList.length)
    (hrel : ∀ (j : Nat) (p : Nat × AV) (q : Nat × Value), ps[j]? = some p → qs.toList[j]? = some q → p.1 = q.1 ∧ p.2.lent = true ∧ RelA C w G ρ p.2 q.2)
    (h : abuild C t ps = some r) : Yields C w G ρ (Instr.build t qs) r := by
  unfold abuild at h
  split at h
  · rename_i i hi
    obtain ⟨z, hz, hzr, hzl, hzs, _⟩ := zero_rel (C := C) (w := w) (G := G) (ρ := ρ) hi
    split at h
    · rename_i fs hk
      split at h
      · rename_i l hl
        obtain ⟨cs, hcs, rfl⟩ := Option.map_eq_some_iff.1 h
        obtain ⟨fl, hu, rfl⟩ := kOf_struct (P := C.P) (t := t) (by rw [← ti_k hi, hk])
        obtain ⟨out, ho, hro, hlo⟩ := fill_sound ps qs.toList i.zero cs z.cells hlen hrel hzr hzl hcs
        refine ⟨rfl, .agg out, ?_, ?_⟩
        · have hm : (fl.mapM fun f => (do pure (f.offset, ← sizeOf f.type) : Sem (Nat × Nat))).run C.P w = .ok l.toArray w := by
            have := szs_run (C := C) (w := w) fl.toList l hl
            rw [← Array.toArray_toList (xs := fl), List.mapM_toArray]
            simp only [Sem.run_map, this, Result.andThen_ok]
          simp only [Instr.build, Sem.run_bind, hz, Result.andThen_ok, run_underlying hu, hm]
          have e : (fun (j : Nat) => l.toArray[j]?) = fun (j : Nat) => l[j]? := by funext j; simp
          simp only [e, ho, Sem.run_pure]
        · simp only [RelA]
          exact ⟨out.toList, by simp, relC_one hro, relC_relAs hro hlo⟩
      · cases h
    · rename_i m e hk
      split at h
      · rename_i ei hei
        obtain ⟨cs, hcs, rfl⟩ := Option.map_eq_some_iff.1 h
        have hu := kOf_array (P := C.P) (t := t) (by rw [← ti_k hi, hk])
        obtain ⟨out, ho, hro, hlo⟩ := fill_sound ps qs.toList i.zero cs z.cells hlen hrel hzr hzl hcs
        refine ⟨rfl, .agg out, ?_, ?_⟩
        · simp only [Instr.build, Sem.run_bind, hz, Result.andThen_ok, run_underlying hu, ti_size hei, ho, Sem.run_pure]
        · simp only [RelA]
          exact ⟨out.toList, by simp, relC_one hro, relC_relAs hro hlo⟩
      · cases h
    · cases h
  · cases h

/-! ### Lengths, least and greatest -/
theorem yields_alen {ts : Array TypeId} {ty : TypeId} {x r : AV} {vx : Value} (hx : RelA C w G ρ x vx) (h : alen C ts x = some r) : Yields C w G ρ (Builtin.len_ ts ty #[vx]) r := by
  unfold alen at h
  split at h
  · rename_i t ht
    split at h
    · rename_i s hk
      simp only [pint, Option.some.injEq] at h; subst h
      have hu := kOf_str (tk_kOf hk)
      rw [relA_str hx]
      refine ⟨rfl, .int .i64 s.length, ?_, by simp [RelA, RelP]⟩
      have e : (⟨s.toArray⟩ : ByteArray).size = s.length := by simp [ByteArray.size]
      simp only [Builtin.len_, ht, List.getElem?_toArray, List.getElem?_cons_zero, Sem.run_bind, run_underlying hu, Result.andThen_ok, Sem.run_pure, goInt, e]
    · rename_i e l hk
      simp only [pint, Option.some.injEq] at h; subst h
      have hu := kOf_slice (tk_kOf hk)
      simp only [RelA, RelP] at hx
      obtain ⟨A, c, rfl, _⟩ := hx
      refine ⟨rfl, .int .i64 l.length, ?_, by simp [RelA, RelP]⟩
      simp [Builtin.len_, ht, run_underlying hu, goInt]
    · rename_i n e hk
      simp only [pint, Option.some.injEq] at h; subst h
      have hu := kOf_array (tk_kOf hk)
      refine ⟨rfl, .int .i64 n, ?_, by simp [RelA, RelP]⟩
      simp [Builtin.len_, ht, run_underlying hu, goInt]
    · cases h
  · cases h

/-! ### Conversions -/
theorem bytes?_rel : ∀ {l : List PV} {s : List UInt8} {us : List Value}, bytes? l = some s → RelPs w G l us →
    ∃ xs : List Int, xs.length = l.length ∧ us = xs.map (Value.int .u8) ∧ xs.map (fun n => UInt8.ofNat n.toNat) = s
  | [], s, us, h, hr => by
    simp only [bytes?, Option.some.injEq] at h; subst h
    simp only [RelPs] at hr; subst hr
    exact ⟨[], rfl, rfl, rfl⟩
  | p :: l, s, us, h, hr => by
    unfold bytes? at h
    split at h
    · rename_i e; cases e
    · rename_i n r e
      cases e
      obtain ⟨s', hs', rfl⟩ := Option.map_eq_some_iff.1 h
      simp only [RelPs, RelP] at hr
      obtain ⟨v, q, rfl, rfl, hr⟩ := hr
      obtain ⟨xs, h1, h2, h3⟩ := bytes?_rel hs' hr
      exact ⟨n :: xs, by simp [h1], by simp [h2], by simp [h3]⟩
    · cases h

theorem flat_ints : ∀ (xs : List Int), flat (xs.map (Value.int .u8)) = xs.map (Value.int .u8)
  | [] => rfl
  | y :: ys => by
    have := flat_ints ys
    show (Value.int .u8 y).cells.toList ++ flat (ys.map (Value.int .u8)) = _
    rw [this]; rfl

theorem tk_under {t : TypeId} {k : TK} (h : C.tk t = some k) : ∃ d, C.P.underlying t = some d := by
  obtain ⟨i, hi, _⟩ := tk_ti h
  exact ti_under hi

theorem yields_aconvP {src dst : TypeId} {x r : AV} {vx : Value} (hx : RelA C w G ρ x vx) (h : aconvP C src dst x = some r) : Yields C w G ρ (convert src dst vx) r := by
  unfold aconvP at h
  split at h
  · rename_i k j n hk0 hk
    obtain ⟨ds, hds⟩ := tk_under hk0
    simp only [pint, Option.some.injEq] at h; subst h
    rw [relA_int hx]
    have hd := kOf_int (tk_kOf hk)
    refine ⟨rfl, .int k (k.wrap n), ?_, by simp [RelA, RelP]⟩
    simp [convert, run_underlying hds, run_underlying hd, Conv.intToInt]
  · rename_i s hk0 hk
    obtain ⟨ds, hds⟩ := tk_under hk0
    simp only [Option.some.injEq] at h; subst h
    rw [relA_str hx]
    have hd := kOf_str (tk_kOf hk)
    refine ⟨rfl, .string ⟨s.toArray⟩, ?_, by simp [RelA, RelP]⟩
    simp [convert, run_underlying hds, run_underlying hd]
  · rename_i e l hk1 hk2
    split at h
    · rename_i he
      obtain ⟨s, hs, rfl⟩ := Option.map_eq_some_iff.1 h
      have hu1 := kOf_slice (tk_kOf hk1)
      have hu2 := kOf_str (tk_kOf hk2)
      have hu3 := kOf_int (tk_kOf he)
      simp only [RelA, RelP] at hx
      obtain ⟨A, c, rfl, _, rfl | ⟨b, off, k, us, rfl, hr, hk, hcell, hG⟩⟩ := hx
      · simp only [bytes?, Option.some.injEq] at hs
        subst hs
        cases A with
        | none =>
          refine ⟨rfl, .string ByteArray.empty, run_convert_bytes_nil w src e hu1 hu3 _ _ dst hu2, ?_⟩
          simp only [RelA, RelP]; rfl
        | some a =>
          refine ⟨rfl, .string ⟨#[]⟩, ?_, by simp [RelA, RelP]⟩
          simp [convert, run_underlying hu1, run_underlying hu2, run_underlying hu3, Conv.bytesToString, loadCells, loadCellsFrom]
          rfl
      · obtain ⟨xs, h1, h2, h3⟩ := bytes?_rel hs hr
        subst h2
        have hfl := flat_ints xs
        refine ⟨rfl, _, run_convert_bytes_arg w src e hu1 hu3 b off l.length c xs h1 (fun i hi => ?_) dst hu2, ?_⟩
        · rw [hfl] at hcell
          exact hcell i _ (by
            have : i < xs.length := by omega
            simp [this, List.getD_eq_getElem?_getD])
        · simp only [RelA, RelP, strOfNums, h3]
    · cases h
  · cases h

theorem yields_aminmax_min {ts : Array TypeId} {ty : TypeId} {x y r : AV} {vx vy : Value} (hx : RelA C w G ρ x vx) (hy : RelA C w G ρ y vy) (h : aminmax false [x, y] = some r) : Yields C w G ρ (Builtin.min_ ts ty #[vx, vy]) r := by
  unfold aminmax at h
  split at h
  · rename_i k a j b e
    simp only [List.cons.injEq, and_true] at e
    obtain ⟨rfl, rfl⟩ := e
    split at h
    · simp only [Bool.false_eq_true, if_false, pint, Option.some.injEq] at h
      subst h
      rw [relA_int hx, relA_int hy]
      exact ⟨rfl, _, run_min_int2 w ts ty _ _ _ _, by simp [RelA, RelP]⟩
    · cases h
  · cases h

theorem yields_aminmax_max {ts : Array TypeId} {ty : TypeId} {x y r : AV} {vx vy : Value} (hx : RelA C w G ρ x vx) (hy : RelA C w G ρ y vy) (h : aminmax true [x, y] = some r) : Yields C w G ρ (Builtin.max_ ts ty #[vx, vy]) r := by
  unfold aminmax at h
  split at h
  · rename_i k a j b e
    simp only [List.cons.injEq, and_true] at e
    obtain ⟨rfl, rfl⟩ := e
    split at h
    · simp only [if_true, pint, Option.some.injEq] at h
      subst h
      rw [relA_int hx, relA_int hy]
      exact ⟨rfl, _, run_max_int2 w ts ty _ _ _ _, by simp [RelA, RelP]⟩
    · cases h
  · cases h

end
end Go.AM
