/- What an operation looks at. -/
import Derived.Test.YtaiakjkdplhooaaGreatDoorAmStep
namespace Go.AM
open Go

section
variable {C : Ctx} {ops : Array Oper} {f : FuncId}

/-- The same temporaries, as far as an operation looks. -/
def Same (ops : Array Oper) (o : Oper) (t t' : List AV) : Prop := ∀ i ∈ rdT ops o, t'.getD i .any = t.getD i .any

theorem aval_same {t t' : List AV} {o : Oper} (h : Same ops o t t') {x : Operand} (hx : x ∈ o.op.operands.toList) : aval C t' x = aval C t x := by
  cases x with
  | tmp i =>
    refine h i (List.mem_append_left _ ?_)
    exact List.mem_filterMap.2 ⟨.tmp i, hx, rfl⟩
  | _ => rfl

theorem aargs_congr {t t' : List AV} (own : Option Nat) : ∀ (i : Nat) (xs : List Operand), (∀ x ∈ xs, aval C t' x = aval C t x) → aargs C t' own i xs = aargs C t own i xs
  | _, [], _ => rfl
  | i, x :: r, h => by
    simp only [aargs]
    rw [h x (by simp), aargs_congr own (i + 1) r (fun y hy => h y (by simp [hy]))]

theorem aop_congr {s t' : List AV} {h : H} {o : Oper} (hv : ∀ x ∈ o.op.operands.toList, aval C t' x = aval C s x) : aop C f t' h o = aop C f s h o := by
  obtain ⟨dst, op, type, pos, after, guard⟩ := o
  cases op <;> simp only [Op.operands] at hv <;> simp only [aop, see]
  case move x => rw [hv x (by simp)]
  case assign x => rw [hv x (by simp)]
  case pick c a b => rw [hv c (by simp), hv a (by simp), hv b (by simp)]
  case box _ x => rw [hv x (by simp)]
  case build t ps =>
    have : (ps.toList.map fun p => (p.1, (aval C t' p.2).downN)) = ps.toList.map fun p => (p.1, (aval C s p.2).downN) :=
      List.map_congr_left fun p hp => by rw [hv p.2 (by simp only [List.mem_map]; exact ⟨p, hp, rfl⟩)]
    rw [this]
  case buildSlice t n ps =>
    have : (ps.toList.map fun p => (p.1, (aval C t' p.2).down)) = ps.toList.map fun p => (p.1, (aval C s p.2).down) :=
      List.map_congr_left fun p hp => by rw [hv p.2 (by simp only [List.mem_map]; exact ⟨p, hp, rfl⟩)]
    rw [this]
  case load _ x => rw [hv x (by simp)]
  case store _ x y => rw [hv x (by simp), hv y (by simp)]
  case nilCheck x => rw [hv x (by simp)]
  case binOp _ _ x y _ => rw [hv x (by simp), hv y (by simp)]
  case unOp _ _ x => rw [hv x (by simp)]
  case convert _ _ x => rw [hv x (by simp)]
  case makeFunc fn first caps =>
    cases fn with
    | func g =>
      simp only
      have : (caps.toList.map fun x => (aval C t' x).down) = caps.toList.map fun x => (aval C s x).down :=
        List.map_congr_left fun x hx => by rw [hv x (by simp; exact .inr (by simpa using hx))]
      rw [this]
    | _ => rfl
  case slice ty x lo hi mx =>
    have e1 : lo.map (see C t') = lo.map (see C s) := by
      cases lo with
      | none => rfl
      | some y => simp only [Option.map_some, see]; rw [hv y (by simp)]
    have e2 : hi.map (see C t') = hi.map (see C s) := by
      cases hi with
      | none => rfl
      | some y => simp only [Option.map_some, see]; rw [hv y (by simp)]
    cases mx with
    | some m =>
      simp only
      rw [hv x (by simp), e1, e2, hv m (by simp)]
    | none =>
      simp only
      rw [hv x (by simp), e1, e2]
  case fieldAddr _ x _ => rw [hv x (by simp)]
  case field _ x _ => rw [hv x (by simp)]
  case indexAddr _ x i => rw [hv x (by simp), hv i (by simp)]
  case index _ x i => rw [hv x (by simp), hv i (by simp)]
  case extract x _ => rw [hv x (by simp)]
  case call c =>
    have ha : ∀ x ∈ c.args.toList, aval C t' x = aval C s x := fun x hx => hv x (by simp only [Call.operands]; simp; exact .inr (by simpa using hx))
    obtain ⟨cal, args, ts⟩ := c
    simp only at ha ⊢
    generalize args.toList = xs at ha ⊢
    cases cal with
    | value g => rfl
    | invoke g n => rfl
    | builtin b =>
      rcases xs with _ | ⟨x, _ | ⟨y, _ | ⟨z, r⟩⟩⟩
      · cases b <;> rfl
      · have hx := ha x (by simp)
        cases b <;> first | (simp only [hx]; done) | rfl
      · have hx := ha x (by simp)
        have hy := ha y (by simp)
        cases b <;> first | (simp only [hx, hy]; done) | rfl
      · cases b <;> rfl

theorem aguard_congr {t t' : List AV} {o : Oper} (h : Same ops o t t') : aguard ops t' o = aguard ops t o := by
  unfold aguard
  cases hg : o.guard with
  | none => rfl
  | some jw =>
    obtain ⟨j, want⟩ := jw
    simp only
    cases hd : (ops[j]?).bind (·.dst) with
    | none => rfl
    | some d =>
      simp only
      rw [h d (List.mem_append_right _ (by simp [gTmp, hg, hd]))]

theorem resG_congr {t t' : List AV} {h h' : H} {o : Oper} {r : AV} {c : Option Tmp} (hs : Same ops o t t') (hr : ResG C f ops t h o r h' c) : ResG C f ops t' h o r h' c := by
  have hv : ∀ x ∈ o.op.operands.toList, aval C t' x = aval C t x := fun x hx => aval_same hs hx
  rcases hr with ⟨hg, hr⟩ | ⟨hg, hr⟩
  · refine .inl ⟨by rw [aguard_congr hs]; exact hg, ?_⟩
    rcases hr with ⟨hr, e⟩ | ⟨cl, g, k, caps, hop, hcal, hsee, hF, e⟩
    · exact .inl ⟨by rw [aop_congr hv]; exact hr, e⟩
    · rw [hop] at hv
      simp only [Op.operands, Call.operands, hcal] at hv
      refine .inr ⟨cl, g, k, caps, hop, hcal, ?_, ?_, e⟩
      · unfold see at hsee ⊢; rw [hv g (by simp)]; exact hsee
      · rw [aargs_congr _ 0 _ (fun x hx => hv x (by simp; exact .inr (by simpa using hx)))]; exact hF
  · exact .inr ⟨by rw [aguard_congr hs]; exact hg, hr⟩

end
end Go.AM
