/- Operations whose order is open: in any order that may be they come to the same. -/
import Derived.Test.YtaiakjkdplhooaaGreatDoorAmCode
namespace Go.AM
open Go

section
variable {C : Ctx} {w w' : World} {G G' : Nat → Nat} {ρ ρ' : List Nat}

mutual
theorem relA_cut {n : Nat} : ∀ (a : AV) (v : Value), okA n a = true → RelA C w G ρ a v → RelA C w G (ρ.take n) a v
  | .any, _, _, _ => by simp [RelA]
  | .pv p, v, _, h => by simpa only [RelA] using h
  | .own none l, v, _, h => by simpa only [RelA] using h
  | .own (some t) l, v, _, h => by simpa only [RelA] using h
  | .agg cs, v, hk, h => by
    simp only [okA] at hk
    simp only [RelA] at h ⊢
    obtain ⟨vs, e, h1, h2⟩ := h
    exact ⟨vs, e, h1, relAs_cut cs vs hk h2⟩
  | .tup cs, v, hk, h => by
    simp only [okA] at hk
    simp only [RelA] at h ⊢
    obtain ⟨vs, e, h2⟩ := h
    exact ⟨vs, e, relAs_cut cs vs hk h2⟩
  | .ptr o off, v, hk, h => by
    simp only [okA, decide_eq_true_eq] at hk
    simp only [RelA] at h ⊢
    obtain ⟨b, hb, e⟩ := h
    exact ⟨b, by rw [List.getElem?_take, if_pos hk]; exact hb, e⟩
  | .nilp, _, _, h => by simpa only [RelA] using h
  | .view cs, v, _, h => by simpa only [RelA] using h
  | .fn f caps, v, hk, h => by
    simp only [okA] at hk
    simp only [RelA] at h ⊢
    obtain ⟨vs, e, h2⟩ := h
    exact ⟨vs, e, relAs_cut caps vs hk h2⟩
  | .nilfn, _, _, h => by simpa only [RelA] using h
  | .nili, _, _, h => by simpa only [RelA] using h
  | .iface t a, v, hk, h => by
    simp only [okA] at hk
    simp only [RelA] at h ⊢
    obtain ⟨u, e, hl, h2⟩ := h
    exact ⟨u, e, hl, relA_cut a u hk h2⟩
theorem relAs_cut {n : Nat} : ∀ (cs : List AV) (vs : List Value), okAs n cs = true → RelAs C w G ρ cs vs → RelAs C w G (ρ.take n) cs vs
  | [], _, _, h => by simpa only [RelAs] using h
  | a :: r, vs, hk, h => by
    simp only [okAs, Bool.and_eq_true] at hk
    simp only [RelAs] at h ⊢
    obtain ⟨v, s, e, hl, h1, h2⟩ := h
    exact ⟨v, s, e, hl, relA_cut a v hk.1 h1, relAs_cut r s hk.2 h2⟩
end

theorem okAs_get {n : Nat} : ∀ {cs : List AV} {i : Nat} {a : AV}, okAs n cs = true → cs[i]? = some a → okA n a = true
  | [], i, a, _, h => by simp at h
  | c :: r, 0, a, hk, h => by
    simp only [okAs, Bool.and_eq_true] at hk
    simp at h; subst h; exact hk.1
  | c :: r, i + 1, a, hk, h => by
    simp only [okAs, Bool.and_eq_true] at hk
    exact okAs_get hk.2 (by simpa using h)

theorem okH_get {n : Nat} : ∀ {h : H} {p : Nat} {cs : List AV}, okH n h = true → h[p]? = some cs → okAs n cs = true
  | [], p, cs, _, h => by simp at h
  | c :: r, 0, a, hk, h => by
    simp only [okH, Bool.and_eq_true] at hk
    simp at h; subst h; exact hk.1
  | c :: r, p + 1, a, hk, h => by
    simp only [okH, Bool.and_eq_true] at hk
    exact okH_get hk.2 (by simpa using h)

/-- What isn't known of variables is let go. -/
theorem inv_cut {t : List AV} {vs : List Value} {a x : H} (hg : ∀ n g, okA n (C.glob g) = true) (I : Inv C w G ρ t vs (a ++ x)) (ht : okAs a.length t = true) (ha : okH a.length a = true) :
    Inv C w G (ρ.take a.length) t vs a ∧ (∀ y g, OwnsAt w (ρ.take a.length) t vs a y g → OwnsAt w ρ t vs (a ++ x) y g ∧ ∀ p j, y = .o p j → p < a.length) := by
  have hρl : a.length ≤ ρ.length := by have := I.hlen; rw [List.length_append] at this; omega
  have key : ∀ y g, OwnsAt w (ρ.take a.length) t vs a y g → OwnsAt w ρ t vs (a ++ x) y g ∧ ∀ p j, y = .o p j → p < a.length := by
    intro y g hy
    cases y with
    | t i => exact ⟨hy, fun p j e => by cases e⟩
    | o p j =>
      obtain ⟨cs, b, u, v, hc, hu, hb, hcell, hub⟩ := hy
      have hp : p < a.length := (List.getElem?_eq_some_iff.1 hc).1
      refine ⟨⟨cs, b, u, v, ?_, hu, ?_, hcell, hub⟩, fun p' j' e => by cases e; exact hp⟩
      · rw [List.getElem?_append_left hp]; exact hc
      · rw [List.getElem?_take, if_pos hp] at hb; exact hb
  refine ⟨{ hlen := by simp; omega, obj := ?_, objG := fun b hb => I.objG b (List.mem_of_mem_take hb), nodup := I.nodup.sublist (List.take_sublist _ _), out := I.out,
            glob := fun g => ⟨(I.glob g).1, relA_cut _ _ (hg _ g) (I.glob g).2⟩, len := I.len, rel := fun i b v hb hv => relA_cut _ _ (okAs_get ht hb) (I.rel i b v hb hv),
            uniq := fun y z g hy hz => I.uniq y z g (key y g hy).1 (key z g hz).1, sep := fun y g hy hm => I.sep y g (key y g hy).1 (List.mem_of_mem_take hm) }, key⟩
  intro p cs b hc hb
  have hp : p < a.length := (List.getElem?_eq_some_iff.1 hc).1
  rw [List.getElem?_take, if_pos hp] at hb
  obtain ⟨us, ty, h1, h2, h3⟩ := I.obj p cs b (by rw [List.getElem?_append_left hp]; exact hc) hb
  exact ⟨us, ty, h1, h2, fun j c v hj hv => ⟨relA_cut _ _ (okAs_get (okH_get ha hc) hj) (h3 j c v hj hv).1, (h3 j c v hj hv).2⟩⟩

theorem cell_blk {w w1 : World} {b : Nat} (h : w1.heap[b]? = w.heap[b]?) (j : Nat) : w1.cell? ⟨b, j, none⟩ = w.cell? ⟨b, j, none⟩ := by
  unfold World.cell?
  simp only [h]

/-- What is beyond a callee's variables stays. -/
theorem ret_frame {av : List AV} {vs : List Value} {a b x : H} {r : AV} {v : Value} (hl : a.length = b.length) (hg : ∀ n g, okA n (C.glob g) = true)
    (I : Inv C w G ρ av vs (a ++ x)) (ht : okAs a.length av = true) (ha : okH a.length a = true)
    (hr : RetPost C w G (ρ.take a.length) (Touch w (ρ.take a.length) av vs a) r b v w') : RetPost C w G ρ (Touch w ρ av vs (a ++ x)) r (b ++ x) v w' := by
  obtain ⟨I1, key⟩ := inv_cut hg I ht ha
  obtain ⟨G', ρ', hp, J, T⟩ := hr
  have hρl : a.length ≤ ρ.length := by have := I.hlen; rw [List.length_append] at this; omega
  have hρ' : ρ' = ρ.take a.length := by
    have h1 := J.hlen
    obtain ⟨s, hs⟩ := hp
    have : s = [] := by
      apply List.eq_nil_of_length_eq_zero
      have := congrArg List.length hs
      simp at this
      omega
    rw [← hs, this, List.append_nil]
  subst hρ'
  have hpre : ρ.take a.length <+: ρ := List.take_prefix _ _
  have hTT : ∀ g, Touch w (ρ.take a.length) av vs a g → Touch w ρ av vs (a ++ x) g := by
    rintro g (h | ⟨y, hy⟩)
    · exact .inl (List.mem_of_mem_take h)
    · exact .inr ⟨y, (key y g hy).1⟩
  have hget : ∀ p b, ρ[p]? = some b → a.length ≤ p → b ∉ ρ.take a.length := by
    intro p b hb hp hm
    obtain ⟨q, hq⟩ := List.getElem?_of_mem hm
    rw [List.getElem?_take] at hq
    split at hq
    · rename_i hlt
      have := I.nodup
      have e : q = p := (List.getElem?_inj (List.getElem?_eq_some_iff.1 hq).1 I.nodup).1 (hq.trans hb.symm)
      omega
    · cases hq
  -- the blocks beyond
  have hlt : ∀ b ∈ ρ, b < w.heap.size := by
    intro b hb
    obtain ⟨q, hq⟩ := List.getElem?_of_mem hb
    have hq' : q < (a ++ x).length := by rw [I.hlen]; exact (List.getElem?_eq_some_iff.1 hq).1
    obtain ⟨us, ty, h1, _⟩ := I.obj q _ b (List.getElem?_eq_getElem hq') hq
    exact (Array.getElem?_eq_some_iff.1 h1).1
  have hfar : ∀ b ∈ ρ, b ∉ ρ.take a.length → ¬ Touch w (ρ.take a.length) av vs a b := by
    rintro b hb hn (h | ⟨y, hy⟩)
    · exact hn h
    · exact I.sep y b (key y b hy).1 hb
  have hstay : ∀ b ∈ ρ, b ∉ ρ.take a.length → Stays w G w' G' b := fun b hb hn => T.keep b (hlt b hb) (hfar b hb hn)
  have hown : ∀ p j g, OwnsAt w ρ av vs (a ++ x) (.o p j) g → a.length ≤ p → ¬ Touch w (ρ.take a.length) av vs a g := by
    rintro p j g ho hp (h | ⟨y, hy⟩)
    · exact I.sep _ g ho (List.mem_of_mem_take h)
    · obtain ⟨h1, h2⟩ := key y g hy
      have := I.uniq _ _ g h1 ho
      have := h2 p j this
      omega
  have hx : ∀ p j g, OwnsAt w' ρ [r] [v] (b ++ x) (.o p j) g → a.length ≤ p → OwnsAt w ρ av vs (a ++ x) (.o p j) g := by
    rintro p j g ⟨cs, bl, c, u, hc, hj, hb, hcell, hub⟩ hp
    refine ⟨cs, bl, c, u, ?_, hj, hb, ?_, hub⟩
    · rw [List.getElem?_append_right (by omega)] at hc ⊢; rw [hl]; exact hc
    · rw [← cell_blk (hstay bl (List.mem_of_getElem? hb) (hget p bl hb hp)).blk]; exact hcell
  have hJ : ∀ y g, OwnsAt w' ρ [r] [v] (b ++ x) y g → (∀ p j, y = .o p j → p < a.length) → OwnsAt w' (ρ.take a.length) [r] [v] b y g := by
    intro y g hy hlt
    cases y with
    | t i => exact hy
    | o p j =>
      have hp := hlt p j rfl
      obtain ⟨cs, bl, c, u, hc, hj, hb, hcell, hub⟩ := hy
      refine ⟨cs, bl, c, u, ?_, hj, ?_, hcell, hub⟩
      · rw [List.getElem?_append_left (by omega)] at hc; exact hc
      · rw [List.getElem?_take, if_pos hp]; exact hb
  have key2 : ∀ y g, OwnsAt w' ρ [r] [v] (b ++ x) y g → OwnsAt w' (ρ.take a.length) [r] [v] b y g ∨ (∃ p j, y = .o p j ∧ a.length ≤ p ∧ OwnsAt w ρ av vs (a ++ x) (.o p j) g) := by
    intro y g hy
    cases y with
    | t i => exact .inl (hJ _ g hy (fun p j e => by cases e))
    | o p j =>
      rcases Nat.lt_or_ge p a.length with h | h
      · exact .inl (hJ _ g hy (fun p' j' e => by cases e; exact h))
      · exact .inr ⟨p, j, rfl, h, hx p j g hy h⟩
  have hsub : ∀ y g, OwnsAt w' (ρ.take a.length) [r] [v] b y g → Touch w (ρ.take a.length) av vs a g ∨ w.heap.size ≤ g := fun y g hy => T.sub g (.inr ⟨y, hy⟩)
  have hap : ∀ y p j g, OwnsAt w' (ρ.take a.length) [r] [v] b y g → a.length ≤ p → ¬ OwnsAt w ρ av vs (a ++ x) (.o p j) g := by
    intro y p j g hy hp ho
    rcases hsub y g hy with h | h
    · exact hown p j g ho hp h
    · exact absurd (owns_lt I ho) (by omega)
  refine ⟨G', ρ, List.prefix_refl _, ?_, ?_⟩
  · refine { hlen := by rw [← I.hlen]; simp [hl], obj := ?_, objG := ?_, nodup := I.nodup, out := J.out, glob := fun g => ⟨(J.glob g).1, RelA_mono (Mono.refl _ _) hpre _ _ (fun k hk => by rw [ub_lent (J.glob g).1] at hk; cases hk) (J.glob g).2⟩,
             len := rfl, rel := fun i c u hc hu => RelA_mono (Mono.refl _ _) hpre _ _ (fun k hk => ⟨rfl, rfl⟩) (J.rel i c u hc hu), uniq := ?_, sep := ?_ }
    · intro p cs bl hc hb
      rcases Nat.lt_or_ge p a.length with h | h
      · obtain ⟨us, ty, h1, h2, h3⟩ := J.obj p cs bl (by rw [List.getElem?_append_left (by omega)] at hc; exact hc) (by rw [List.getElem?_take, if_pos h]; exact hb)
        exact ⟨us, ty, h1, h2, fun j c u hj hu => ⟨RelA_mono (Mono.refl _ _) hpre _ _ (fun k hk => ⟨rfl, rfl⟩) (h3 j c u hj hu).1, (h3 j c u hj hu).2⟩⟩
      · have hc' : (a ++ x)[p]? = some cs := by rw [List.getElem?_append_right (by omega)] at hc ⊢; rw [hl]; exact hc
        obtain ⟨us, ty, h1, h2, h3⟩ := I.obj p cs bl hc' hb
        have hbm := List.mem_of_getElem? hb
        refine ⟨us, ty, by rw [(hstay bl hbm (hget p bl hb h)).blk]; exact h1, h2, fun j c u hj hu => ⟨?_, (h3 j c u hj hu).2⟩⟩
        refine RelA_mono T.toMono (List.prefix_refl _) _ _ (fun g hgu => ?_) (h3 j c u hj hu).1
        have ho : OwnsAt w ρ av vs (a ++ x) (.o p j) g := ⟨cs, bl, c, u, hc', hj, hb, by rw [cell_of_block h1]; exact hu, hgu⟩
        exact T.keep g (owns_lt I ho) (hown p j g ho h)
    · intro bl hb
      by_cases hm : bl ∈ ρ.take a.length
      · exact J.objG bl hm
      · rw [(hstay bl hb hm).fr]; exact I.objG bl hb
    · intro y z g hy hz
      rcases key2 y g hy with h1 | ⟨p, j, rfl, hp, h1⟩ <;> rcases key2 z g hz with h2 | ⟨q, k, rfl, hq, h2⟩
      · exact J.uniq y z g h1 h2
      · exact absurd h2 (hap y q k g h1 hq)
      · exact absurd h1 (hap z p j g h2 hp)
      · exact I.uniq _ _ g h1 h2
    · intro y g hy hm
      rcases key2 y g hy with h1 | ⟨p, j, rfl, hp, h1⟩
      · have hn := J.sep y g h1
        rcases hsub y g h1 with h | h
        · exact hfar g hm hn h
        · exact absurd (hlt g hm) (by omega)
      · exact I.sep _ g h1 hm
  · refine { T with keep := fun g hgl hS => T.keep g hgl (fun h => hS (hTT g h)), sub := ?_ }
    rintro g (h | ⟨y, hy⟩)
    · exact .inl (.inl h)
    · rcases key2 y g hy with h1 | ⟨p, j, rfl, hp, h1⟩
      · exact (hsub y g h1).imp (hTT g) id
      · exact .inl (.inr ⟨_, h1⟩)

theorem fnDoes_frame {k : FuncId} {av : List AV} {a b : H} {r : AV} (hf : FnDoes C k av a r b) (hl : a.length = b.length) (hg : ∀ n g, okA n (C.glob g) = true)
    (ht : okAs a.length av = true) (ha : okH a.length a = true) (x : H) : FnDoes C k av (a ++ x) r (b ++ x) := by
  intro w G ρ vs I
  have I1 := (inv_cut hg I ht ha).1
  rcases hf w G _ vs I1 with ⟨h1, h2⟩ | ⟨v, w', h1, h2⟩
  · refine .inl ⟨h1, Calls.mono h2 ?_⟩
    rintro e w' ⟨v, rfl, hr⟩
    exact ⟨v, rfl, ret_frame hl hg I ht ha hr⟩
  · exact .inr ⟨v, w', h1, ret_frame hl hg I ht ha h2⟩

end
end Go.AM
