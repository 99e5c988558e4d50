/- One operation of a region. -/
import Derived.Test.YtaiakjkdplhooaaGreatDoorAmDraw
namespace Go.AM
open Go

/-- What an operation may come to, by its own text or by the call's contract. -/
def ResR (C : Ctx) (f : FuncId) (t : List AV) (h : H) (o : Oper) (r : AV) (h' : H) (c : Option Tmp) : Prop :=
  (aop C f t h o = some (r, h') ∧ c = consumed C f o) ∨
  (∃ cl g k caps, o.op = .call cl ∧ cl.callee = .value g ∧ see C t g = .fn k caps ∧ FnDoes C k (aargs C t (C.pol.ownArg k) 0 cl.args.toList ++ caps) h r h' ∧
    c = ownTmp (C.pol.ownArg k) cl.args.toList)

def ResG (C : Ctx) (f : FuncId) (ops : Array Oper) (t : List AV) (h : H) (o : Oper) (r : AV) (h' : H) (c : Option Tmp) : Prop :=
  (aguard ops t o = some true ∧ ResR C f t h o r h' c) ∨ (aguard ops t o = some false ∧ r = .tup [] ∧ h' = h ∧ c = none)

/-- Does the abstract state stand for the model's, so far into the call? -/
structure St (C : Ctx) (w0 : World) (G0 : Nat → Nat) (ρ0 : List Nat) (S0 : Nat → Prop) (s : AS) (a : Act) (w : World) : Prop where
  defers : a.defers = []
  ex : ∃ G ρ, ρ0 <+: ρ ∧ Inv C w G ρ s.t a.tmps.toList s.h ∧ Tr w0 G0 S0 w G (Touch w ρ s.t a.tmps.toList s.h)

section
variable {C : Ctx} {w w' : World} {G G' : Nat → Nat} {ρ ρ' : List Nat} {ops : Array Oper} {f : FuncId}
variable {w0 : World} {G0 : Nat → Nat} {ρ0 : List Nat} {S0 : Nat → Prop}

theorem st_put {s : AS} {a : Act} (hd : a.defers = []) (hp : ρ0 <+: ρ) (_I : Inv C w G ρ s.t a.tmps.toList s.h) (T : Tr w0 G0 S0 w G (Touch w ρ s.t a.tmps.toList s.h))
    {t' : List AV} {r : AV} {h' : H} {v : Value} (ho : OpPost C w G ρ s.t a.tmps.toList s.h r h' t' v w') (d : Option Tmp) : St C w0 G0 ρ0 S0 ⟨putT t' d r, h', []⟩ (a.put d v) w' := by
  obtain ⟨G', ρ', h1, h2, h3⟩ := post_put ho d
  exact ⟨by cases d <;> exact hd, G', ρ', List.IsPrefix.trans hp h1, h2, T.trans h3⟩

theorem st_wr {s : AS} {L : List Nat} {a : Act} (h : St C w0 G0 ρ0 S0 ⟨s.t, s.h, L⟩ a w) : St C w0 G0 ρ0 S0 s a w := ⟨h.defers, h.ex⟩

theorem guard_sound {t : List AV} {a : Act} {h : H} (I : Inv C w G ρ t a.tmps.toList h) {o : Oper} {b : Bool} (hg : aguard ops t o = some b) :
    Region.wanted o (yielded ops a.tmps) = b := by
  unfold aguard at hg
  unfold Region.wanted
  cases hgd : o.guard with
  | none => simp only [hgd, Option.some.injEq] at hg; exact hg
  | some jw =>
    obtain ⟨j, want⟩ := jw
    simp only [hgd] at hg ⊢
    unfold yielded
    cases hd : (ops[j]?).bind (·.dst) with
    | none => simp only [hd] at hg; cases hg
    | some d =>
      simp only [hd, Option.bind_some] at hg ⊢
      cases hv : t[d]? with
      | none => simp only [List.getD_eq_getElem?_getD, hv, Option.getD_none] at hg; cases hg
      | some av =>
        have hlt : d < a.tmps.size := by
          have := (List.getElem?_eq_some_iff.1 hv).1
          have e := I.len
          simp only [Array.length_toList] at e
          exact Nat.lt_of_lt_of_eq this e
        have hrel := I.rel d av (a.tmps[d]) hv (by rw [Array.getElem?_toList]; exact Array.getElem?_eq_getElem hlt)
        simp only [List.getD_eq_getElem?_getD, hv, Option.getD_some] at hg
        rw [Array.getElem?_eq_getElem hlt]
        split at hg
        · rename_i b'
          rw [relA_bool hrel]
          simp only [Option.some.injEq] at hg ⊢
          rw [← hg]; cases b' <;> cases want <;> rfl
        · simp only [RelA] at hrel
          obtain ⟨vs, e, hvs⟩ := hrel
          simp only [RelAs] at hvs
          rw [e, hvs]
          simp only [Option.some.injEq] at hg ⊢
          rw [← hg]; cases want <;> rfl
        · cases hg

/-- A skipped one. -/
theorem opPost_skip {t : List AV} {vs : List Value} {h : H} (I : Inv C w G ρ t vs h) : OpPost C w G ρ t vs h (.tup []) h t undef w :=
  opPost_pure I none (by simp only [RelA]; exact ⟨[], rfl, by simp [RelAs]⟩) rfl

theorem step_sound {Q : Exit → Act → World → Prop} {s : AS} {a : Act} (hs : St C w0 G0 ρ0 S0 s a w) {i : Nat} {o : Oper} (hi : ops[i]? = some o) {r : AV} {h' : H} {c : Option Tmp}
    (hr : ResG C f ops s.t s.h o r h' c) {K : Act → World → Prop} (hK : ∀ a' w', St C w0 G0 ρ0 S0 ⟨putT (downT s.t c) o.dst r, h', []⟩ a' w' → K a' w') : wpOp C.P ops Q i K a w := by
  obtain ⟨hd, G, ρ, hp, I, T⟩ := hs
  unfold wpOp
  simp only [hi]
  rcases hr with ⟨hg, hr⟩ | ⟨hg, rfl, rfl, rfl⟩
  · rw [guard_sound I hg]
    simp only [if_true]
    refine .inl ?_
    unfold Oper.wp
    rcases hr with ⟨hr, rfl⟩ | ⟨cl, g, k, caps, hop, hcal, hsee, hF, rfl⟩
    · obtain ⟨v, w', hrun, hpost⟩ := aop_sound I f o hr
      rcases hrun with hrun | ⟨hrun, rfl⟩
      · rw [hrun]; exact hK _ _ (st_put hd hp I T hpost _)
      · rw [hrun]; exact hK _ _ (st_put hd hp I T hpost _)
    · have hrel := rel_see I g
      rw [hsee] at hrel
      simp only [RelA] at hrel
      obtain ⟨cvs, hv, hcv⟩ := hrel
      have hexec : execOp a.eval o = callFunc k (cl.args.toList.map a.eval ++ cvs).toArray := by
        unfold execOp
        simp only [hop]
        unfold resolve
        simp only [hcal, hv, Deferred.ofValue, pure_bind, invoke]
        congr 1
        apply Array.ext'
        simp
      rw [hexec]
      obtain ⟨I1, _⟩ := inv_args I (C.pol.ownArg k) cl.args.toList hcv
      rcases hF w G ρ _ I1 with ⟨h1, h2⟩ | ⟨v, w', h1, h2⟩
      · rw [h1]
        refine Calls.mono h2 ?_
        rintro e w' ⟨v, rfl, hret⟩
        exact hK _ _ (st_put hd hp I T (inv_return I _ _ hcv hret) _)
      · rw [h1]
        exact hK _ _ (st_put hd hp I T (inv_return I _ _ hcv h2) _)
  · rw [guard_sound I hg]
    simp only [Bool.false_eq_true, if_false]
    exact hK _ _ (st_put hd hp I T (opPost_skip I) _)

end
end Go.AM
