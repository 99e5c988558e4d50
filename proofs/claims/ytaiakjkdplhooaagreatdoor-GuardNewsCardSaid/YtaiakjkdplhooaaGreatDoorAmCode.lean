/- Calls, lists of operations. -/
import Derived.Test.YtaiakjkdplhooaaGreatDoorAmOps9
import Derived.LoopN
import Derived.Scope
namespace Go.AM
open Go

structure CtxOk (C : Ctx) : Prop where
  mixed : C.P.follows .mixedOrders = true
  noNG : ∀ (f : FuncId) (fn : Func), C.P.funcs[f]? = some fn → (fn.name == "runtime.NumGoroutine") = false

/-- What a call leaves. -/
def RetPost (C : Ctx) (w : World) (G : Nat → Nat) (ρ : List Nat) (S : Nat → Prop) (r : AV) (h' : H) (v : Value) (w' : World) : Prop :=
  ∃ G' ρ', ρ <+: ρ' ∧ Inv C w' G' ρ' [r] [v] h' ∧ Tr w G S w' G' (Touch w' ρ' [r] [v] h')

/-- The model's call does what the abstract machine's call answers. -/
def FnDoes (C : Ctx) (f : FuncId) (av : List AV) (h : H) (r : AV) (h' : H) : Prop :=
  ∀ (w : World) (G : Nat → Nat) (ρ : List Nat) (vs : List Value), Inv C w G ρ av vs h →
    ((callFunc f vs.toArray).run C.P w = .ok (.enter f vs.toArray) w ∧ Calls C.P f vs.toArray w (fun e w' => ∃ v, e = .returned v ∧ RetPost C w G ρ (Touch w ρ av vs h) r h' v w')) ∨
    (∃ v w', (callFunc f vs.toArray).run C.P w = .ok (.value v) w' ∧ RetPost C w G ρ (Touch w ρ av vs h) r h' v w')

section
variable {C : Ctx} {w w' : World} {G G' : Nat → Nat} {ρ ρ' : List Nat} {t : List AV} {vs : List Value} {h h' : H} {a : Act}

theorem put_toList (a : Act) (d : Option Tmp) (v : Value) : (a.put d v).tmps.toList = match d with | some i => a.tmps.toList.set i v | none => a.tmps.toList := by
  cases d <;> simp [Act.put]

/-- An operation's result goes into its temporary. -/
theorem post_put {t' : List AV} {r : AV} {v : Value} (hp : OpPost C w G ρ t a.tmps.toList h r h' t' v w') (d : Option Tmp) :
    ∃ G' ρ', ρ <+: ρ' ∧ Inv C w' G' ρ' (putT t' d r) (a.put d v).tmps.toList h' ∧ Tr w G (Touch w ρ t a.tmps.toList h) w' G' (Touch w' ρ' (putT t' d r) (a.put d v).tmps.toList h') := by
  obtain ⟨G', ρ', h1, h2, h3, h4, h5⟩ := hp
  rw [put_toList]
  cases d with
  | none => exact ⟨G', ρ', h1, h2, h5⟩
  | some i =>
    obtain ⟨k1, k2⟩ := inv_put h2 i h3 (fun g hg => ⟨(h4 g hg).1, (h4 g hg).2.1⟩)
    refine ⟨G', ρ', h1, k1, { h5 with sub := fun b hb => ?_ }⟩
    rcases hb with hb | ⟨x, hx⟩
    · exact h5.sub b (.inl hb)
    · rcases k2 x b hx with ⟨_, hu⟩ | hx
      · exact (h4 b hu).2.2
      · exact h5.sub b (.inr ⟨x, hx⟩)

theorem aargs_length (own : Option Nat) : ∀ (i : Nat) (xs : List Operand), (aargs C t own i xs).length = xs.length
  | _, [] => rfl
  | i, x :: r => by simp [aargs, aargs_length own (i + 1) r]

theorem aargs_get (own : Option Nat) : ∀ (i : Nat) (xs : List Operand) (j : Nat) (x : Operand), xs[j]? = some x →
    (aargs C t own i xs)[j]? = some (if own = some (i + j) then aval C t x else (aval C t x).deep)
  | _, [], j, _, h => by simp at h
  | i, y :: r, 0, x, h => by simp at h; subst h; simp [aargs]
  | i, y :: r, j + 1, x, h => by
    simp only [aargs, List.getElem?_cons_succ] at h ⊢
    rw [aargs_get own (i + 1) r j x h, show i + 1 + j = i + (j + 1) by omega]

/-- The callee's beginning. -/
theorem inv_args (I : Inv C w G ρ t a.tmps.toList h) (own : Option Nat) (xs : List Operand) {caps : List AV} {cvs : List Value} (hc : RelAs C w G ρ caps cvs) :
    Inv C w G ρ (aargs C t own 0 xs ++ caps) (xs.map a.eval ++ cvs) h ∧
      (∀ x g, OwnsAt w ρ (aargs C t own 0 xs ++ caps) (xs.map a.eval ++ cvs) h x g → (∃ p j, x = .o p j ∧ OwnsAt w ρ t a.tmps.toList h (.o p j) g) ∨ (∃ i, x = .t i ∧ own = some i ∧ ∃ s, ownTmp own xs = some s ∧ OwnsAt w ρ t a.tmps.toList h (.t s) g)) := by
  have hlen := aargs_length (C := C) (t := t) own 0 xs
  have hcl := RelAs_length hc
  have hget : ∀ (i : Nat) (b : AV) (v : Value), (aargs C t own 0 xs ++ caps)[i]? = some b → (xs.map a.eval ++ cvs)[i]? = some v →
      RelA C w G ρ b v ∧ ∀ g, ub b v = some g → own = some i ∧ ∃ s, ownTmp own xs = some s ∧ OwnsAt w ρ t a.tmps.toList h (.t s) g := by
    intro i b v hb hv
    rcases Nat.lt_or_ge i xs.length with hlt | hge
    · rw [List.getElem?_append_left (by rw [hlen]; exact hlt)] at hb
      rw [List.getElem?_append_left (by simpa using hlt), List.getElem?_map] at hv
      obtain ⟨x, hx, rfl⟩ := Option.map_eq_some_iff.1 hv
      rw [aargs_get own 0 xs i x hx] at hb
      simp only [Nat.zero_add, Option.some.injEq] at hb
      subst hb
      split
      · rename_i ho
        refine ⟨rel_aval I x, fun g hg => ⟨ho, ?_⟩⟩
        obtain ⟨h1, h2⟩ := own_src I hg
        obtain ⟨s, hs⟩ := Option.isSome_iff_exists.1 h2
        rw [hs] at h1
        refine ⟨s, ?_, h1⟩
        simp [ownTmp, ho, hx, hs]
      · exact ⟨RelA_deep (rel_aval I x), fun g hg => by rw [ub_lent (lent_deep _)] at hg; cases hg⟩
    · rw [List.getElem?_append_right (by rw [hlen]; exact hge), hlen] at hb
      rw [List.getElem?_append_right (by simpa using hge), List.length_map] at hv
      obtain ⟨v', hv', hl, hr⟩ := RelAs_get hc hb
      rw [hv] at hv'; cases hv'
      exact ⟨hr, fun g hg => by rw [ub_lent hl] at hg; cases hg⟩
  have key : ∀ x g, OwnsAt w ρ (aargs C t own 0 xs ++ caps) (xs.map a.eval ++ cvs) h x g → (∃ p j, x = .o p j ∧ OwnsAt w ρ t a.tmps.toList h (.o p j) g) ∨
      (∃ i, x = .t i ∧ own = some i ∧ ∃ s, ownTmp own xs = some s ∧ OwnsAt w ρ t a.tmps.toList h (.t s) g) := by
    intro x g hx
    cases x with
    | t i =>
      obtain ⟨b, v, hb, hv, hu⟩ := hx
      exact .inr ⟨i, rfl, (hget i b v hb hv).2 g hu⟩
    | o p j => exact .inl ⟨p, j, rfl, hx⟩
  refine ⟨{ I with len := by simp [hlen, hcl], rel := fun i b v hb hv => (hget i b v hb hv).1, uniq := ?_, sep := ?_ }, key⟩
  · intro x y g hx hy
    rcases key x g hx with ⟨p, j, rfl, hx'⟩ | ⟨i, rfl, ho, s, hs, hx'⟩
    · rcases key y g hy with ⟨q, k, rfl, hy'⟩ | ⟨i', rfl, ho', s', hs', hy'⟩
      · exact I.uniq _ _ g hx' hy'
      · exact absurd (I.uniq _ _ g hx' hy') (by simp)
    · rcases key y g hy with ⟨q, k, rfl, hy'⟩ | ⟨i', rfl, ho', s', hs', hy'⟩
      · exact absurd (I.uniq _ _ g hx' hy') (by simp)
      · rw [ho] at ho'; cases ho'; rfl
  · intro x g hx
    rcases key x g hx with ⟨p, j, rfl, hx'⟩ | ⟨i, rfl, ho, s, hs, hx'⟩ <;> exact I.sep _ g hx'

/-- Behind a call. -/
theorem inv_return (I : Inv C w G ρ t a.tmps.toList h) (own : Option Nat) (xs : List Operand) {caps : List AV} {cvs : List Value} (hc : RelAs C w G ρ caps cvs) {r : AV} {v : Value} {h' : H} {w' : World}
    (hr : RetPost C w G ρ (Touch w ρ (aargs C t own 0 xs ++ caps) (xs.map a.eval ++ cvs) h) r h' v w') :
    OpPost C w G ρ t a.tmps.toList h r h' (downT t (ownTmp own xs)) v w' := by
  obtain ⟨G', ρ', hp, J, T⟩ := hr
  obtain ⟨I1, k1⟩ := inv_args I own xs hc
  obtain ⟨I2, k2⟩ := inv_down I (ownTmp own xs)
  have hTT : ∀ b, Touch w ρ (aargs C t own 0 xs ++ caps) (xs.map a.eval ++ cvs) h b → Touch w ρ t a.tmps.toList h b := by
    rintro b (hb | ⟨x, hx⟩)
    · exact .inl hb
    · rcases k1 x b hx with ⟨p, j, rfl, hx'⟩ | ⟨i, rfl, ho, s, hs, hx'⟩ <;> exact .inr ⟨_, hx'⟩
  -- what the caller's own temporaries own isn't touched
  have hfar : ∀ i g, OwnsAt w ρ (downT t (ownTmp own xs)) a.tmps.toList h (.t i) g → ¬ Touch w ρ (aargs C t own 0 xs ++ caps) (xs.map a.eval ++ cvs) h g := by
    intro i g hi hT
    obtain ⟨hi1, hi2⟩ := k2 _ g hi
    rcases hT with hT | ⟨x, hx⟩
    · exact I.sep _ g hi1 hT
    · rcases k1 x g hx with ⟨p, j, rfl, hx'⟩ | ⟨i', rfl, ho, s, hs, hx'⟩
      · exact absurd (I.uniq _ _ g hi1 hx') (by simp)
      · exact hi2 s hs (I.uniq _ _ g hi1 hx')
  have hstay : ∀ i g, OwnsAt w ρ (downT t (ownTmp own xs)) a.tmps.toList h (.t i) g → Stays w G w' G' g := fun i g hi =>
    T.keep g (owns_lt I2 hi) (hfar i g hi)
  -- what the callee leaves owned is its own, or was handed to it
  have hnew : ∀ x g, OwnsAt w' ρ' [r] [v] h' x g → Touch w ρ (aargs C t own 0 xs ++ caps) (xs.map a.eval ++ cvs) h g ∨ w.heap.size ≤ g := fun x g hx => T.sub g (.inr ⟨x, hx⟩)
  have hlt : ∀ i g, OwnsAt w ρ (downT t (ownTmp own xs)) a.tmps.toList h (.t i) g → g < w.heap.size := fun i g hi => owns_lt I2 hi
  have hap : ∀ i g x, OwnsAt w ρ (downT t (ownTmp own xs)) a.tmps.toList h (.t i) g → ¬ OwnsAt w' ρ' [r] [v] h' x g := by
    intro i g x hi hx
    rcases hnew x g hx with hx' | hx'
    · exact hfar i g hi hx'
    · exact absurd (hlt i g hi) (by omega)
  have key : ∀ x g, OwnsAt w' ρ' (downT t (ownTmp own xs)) a.tmps.toList h' x g → (∃ i, x = .t i ∧ OwnsAt w ρ (downT t (ownTmp own xs)) a.tmps.toList h (.t i) g) ∨ (∃ p j, x = .o p j ∧ OwnsAt w' ρ' [r] [v] h' (.o p j) g) := by
    intro x g hx
    cases x with
    | t i => exact .inl ⟨i, rfl, hx⟩
    | o p j => exact .inr ⟨p, j, rfl, hx⟩
  have hInv : Inv C w' G' ρ' (downT t (ownTmp own xs)) a.tmps.toList h' :=
    { J with
      len := I2.len
      rel := fun i b u hb hu => RelA_mono T.toMono hp b u (fun g hg => hstay i g ⟨b, u, hb, hu, hg⟩) (I2.rel i b u hb hu)
      uniq := fun x y g hx hy => by
        rcases key x g hx with ⟨i, rfl, hx'⟩ | ⟨p, j, rfl, hx'⟩
        · rcases key y g hy with ⟨i', rfl, hy'⟩ | ⟨q, k, rfl, hy'⟩
          · exact I2.uniq _ _ g hx' hy'
          · exact absurd hy' (hap i g _ hx')
        · rcases key y g hy with ⟨i', rfl, hy'⟩ | ⟨q, k, rfl, hy'⟩
          · exact absurd hx' (hap i' g _ hy')
          · exact J.uniq _ _ g hx' hy'
      sep := fun x g hx => by
        rcases key x g hx with ⟨i, rfl, hx'⟩ | ⟨p, j, rfl, hx'⟩
        · intro hm
          rcases T.sub g (.inl hm) with hT | hT
          · exact hfar i g hx' hT
          · exact absurd (hlt i g hx') (by omega)
        · exact J.sep _ g hx' }
  refine ⟨G', ρ', hp, hInv, J.rel 0 r v rfl rfl, fun g hg => ?_, { T with keep := fun b hb hS => T.keep b hb (fun hT => hS (hTT b hT)), sub := fun b hb => ?_ }⟩
  · have ho : OwnsAt w' ρ' [r] [v] h' (.t 0) g := ⟨r, v, rfl, rfl, hg⟩
    refine ⟨J.sep _ g ho, fun x hx => ?_, (hnew _ g ho).imp (hTT g) id⟩
    rcases key x g hx with ⟨i, rfl, hx'⟩ | ⟨p, j, rfl, hx'⟩
    · exact hap i g _ hx' ho
    · exact absurd (J.uniq _ _ g ho hx') (by simp)
  · rcases hb with hb | ⟨x, hx⟩
    · exact (T.sub b (.inl hb)).imp (hTT b) id
    · rcases key x b hx with ⟨i, rfl, hx'⟩ | ⟨p, j, rfl, hx'⟩
      · exact .inl (.inr ⟨_, (k2 _ b hx').1⟩)
      · exact (T.sub b (.inr ⟨_, hx'⟩)).imp (hTT b) id

end
end Go.AM
