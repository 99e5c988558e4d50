/- Each operation that calls nothing: what the abstract machine answers, the model does. -/
import Derived.Test.YtaiakjkdplhooaaGreatDoorAmOps8
namespace Go.AM
open Go

section
variable {C : Ctx} {w : World} {G : Nat → Nat} {ρ : List Nat} {t : List AV} {h : H} {a : Act}

theorem relAs_map (I : Inv C w G ρ t a.tmps.toList h) : ∀ (xs : List Operand), RelAs C w G ρ (xs.map fun x => see C t x) (xs.map a.eval)
  | [] => by simp [RelAs]
  | x :: xs => by
    simp only [List.map_cons, RelAs]
    exact ⟨_, _, rfl, lent_see C t x, rel_see I x, relAs_map I xs⟩

theorem downT_none (t : List AV) : downT t none = t := rfl

set_option maxHeartbeats 4000000 in
theorem aop_sound (I : Inv C w G ρ t a.tmps.toList h) (f : FuncId) (o : Oper) {r : AV} {h' : H} (ha : aop C f t h o = some (r, h')) :
    Does C w G ρ t a.tmps.toList h r h' (downT t (consumed C f o)) (execOp a.eval o) := by
  have pv : ∀ {x : Option AV} {s : Sem Value} (src : Option Tmp), (x.map fun b => (b, h)) = some (r, h') → (∀ r, x = some r → Yields C w G ρ s r) →
      Does C w G ρ t a.tmps.toList h r h' (downT t src) (do pure (.value (← s))) := by
    intro x s src hx hy
    obtain ⟨b, hb, e⟩ := Option.map_eq_some_iff.1 hx
    simp only [Prod.mk.injEq] at e
    obtain ⟨rfl, rfl⟩ := e
    exact does_yields I src (hy b hb)
  have pd : ∀ {x : Option AV} {s : Sem Value} {t' : List AV}, (x.map fun b => (b, h)) = some (r, h') → (∀ r, x = some r → ∃ v w', s.run C.P w = .ok v w' ∧ OpPost C w G ρ t a.tmps.toList h r h t' v w') →
      Does C w G ρ t a.tmps.toList h r h' t' (do pure (.value (← s))) := by
    intro x s t' hx hy
    obtain ⟨b, hb, e⟩ := Option.map_eq_some_iff.1 hx
    simp only [Prod.mk.injEq] at e
    obtain ⟨rfl, rfl⟩ := e
    exact does_value (hy b hb)
  have pm : ∀ (x : Operand) {b : AV} {t' : List AV}, (some b).map (fun b => (b, h)) = some (r, h') → OpPost C w G ρ t a.tmps.toList h b h t' (a.eval x) w →
      Does C w G ρ t a.tmps.toList h r h' t' (pure (.value (a.eval x))) := by
    intro x b t' hx hp
    simp only [Option.map_some, Option.some.injEq, Prod.mk.injEq] at hx
    obtain ⟨rfl, rfl⟩ := hx
    exact ⟨_, w, .inl rfl, hp⟩
  unfold aop at ha
  unfold execOp consumed
  cases hop : o.op with
  | move x =>
    simp only [hop] at ha ⊢
    cases hd : o.dst with
    | none =>
      simp only [hd] at ha ⊢
      exact pm x ha (opPost_pure I none (rel_see I x) (lent_see C t x))
    | some d =>
      simp only [hd] at ha ⊢
      cases hk : C.pol.take f d with
      | true =>
        simp only [hk, if_true] at ha ⊢
        exact pm x ha (opPost_raw I x)
      | false =>
        simp only [hk, Bool.false_eq_true, if_false] at ha ⊢
        exact pm x ha (opPost_pure I none (rel_see I x) (lent_see C t x))
  | assign x =>
    simp only [hop] at ha ⊢
    exact pm x ha (opPost_raw I x)
  | pick c x y =>
    simp only [hop] at ha ⊢
    have hc := rel_see I c
    split at ha
    · rename_i hb
      rw [hb] at hc
      have e : (do pure (.value (if ← asBool (a.eval c) then a.eval x else a.eval y)) : Sem Next) = pure (.value (a.eval x)) := by rw [relA_bool hc]; rfl
      rw [e]
      exact pm x ha (opPost_pure I none (rel_see I x) (lent_see C t x))
    · rename_i hb
      rw [hb] at hc
      have e : (do pure (.value (if ← asBool (a.eval c) then a.eval x else a.eval y)) : Sem Next) = pure (.value (a.eval y)) := by rw [relA_bool hc]; rfl
      rw [e]
      exact pm y ha (opPost_pure I none (rel_see I y) (lent_see C t y))
    · cases ha
  | alloc ty =>
    simp only [hop] at ha ⊢
    obtain ⟨i, hi, e⟩ := Option.map_eq_some_iff.1 ha
    simp only [Prod.mk.injEq] at e
    obtain ⟨rfl, rfl⟩ := e
    obtain ⟨z, hz, hzr, hzl, _, _⟩ := zero_rel (C := C) (w := w) (G := G) (ρ := ρ) hi
    refine does_value ⟨_, _, ?_, opPost_new I ty hzr hzl⟩
    simp [Instr.alloc, hz, newVar, run_newRow]
  | box ty x =>
    simp only [hop] at ha ⊢
    obtain ⟨cs, hcs, e⟩ := Option.map_eq_some_iff.1 ha
    simp only [Prod.mk.injEq] at e
    obtain ⟨rfl, rfl⟩ := e
    have hx := RelA_downN (rel_aval I x)
    obtain ⟨h1, h2⟩ := relA_cells hx hcs
    refine does_value ⟨_, _, ?_, opPost_new I ty (us := (a.eval x).cells.toList) ⟨by rw [h1, Array.length_toList], h2⟩ (cells_lents hx (lent_downN _) hcs)⟩
    simp [Instr.box, newVar, run_newRow]
  | build ty ps =>
    simp only [hop] at ha ⊢
    refine pv none ha (fun r hr => ?_)
    refine yields_abuild (qs := ps.map fun (i, x) => (i, a.eval x)) (by simp) (fun j p q hp hq => ?_) hr
    rw [List.getElem?_map] at hp
    rw [Array.toList_map, List.getElem?_map] at hq
    obtain ⟨y, hy, rfl⟩ := Option.map_eq_some_iff.1 hp
    rw [hy] at hq
    simp only [Option.map_some, Option.some.injEq] at hq
    subst hq
    exact ⟨rfl, lent_downN _, RelA_downN (rel_aval I y.2)⟩
  | buildSlice ty n ps =>
    simp only [hop] at ha ⊢
    refine pd ha (fun r hr => ?_)
    refine opPost_buildSlice I (qs := ps.map fun (i, x) => (i, a.eval x)) (by simp) (fun j p q hp hq => ?_) hr
    rw [List.getElem?_map] at hp
    rw [Array.toList_map, List.getElem?_map] at hq
    obtain ⟨y, hy, rfl⟩ := Option.map_eq_some_iff.1 hp
    rw [hy] at hq
    simp only [Option.map_some, Option.some.injEq] at hq
    subst hq
    exact ⟨rfl, rel_see I y.2⟩
  | load ty x =>
    simp only [hop] at ha ⊢
    have hx := rel_see I x
    split at ha
    · rename_i d p off hd hp
      rw [hp] at hx
      split at ha
      · rename_i hk
        split at ha
        · rename_i cs hcs
          split at ha
          · rename_i b hb
            simp only [Option.some.injEq, Prod.mk.injEq] at ha
            obtain ⟨rfl, rfl⟩ := ha
            simp only [RelA] at hx
            obtain ⟨g, hg, hxe⟩ := hx
            obtain ⟨us, uty, hh, hlen, hr⟩ := I.obj p cs g hcs hg
            have hlt : off < us.length := by rw [← hlen]; exact getElem?_lt hb
            have hcell : w.cell? ⟨g, off, none⟩ = some us[off] := by rw [cell_of_block hh]; simp [hlt]
            refine does_value ⟨us[off], w, ?_, opPost_take I hcs hb hg hcell⟩
            rw [hxe]
            have hsl : ∃ e, C.tk ty = some (.slice e) := by
              simp only [Bool.and_eq_true] at hk
              have := hk.2
              unfold isSlice at this
              split at this
              · exact ⟨_, ‹_›⟩
              · cases this
            obtain ⟨e, hsl⟩ := hsl
            have hu := kOf_slice (tk_kOf hsl)
            simp only [Instr.loadAt, Instr.sureAddr, loadVar, isAgg, Sem.run_bind, Sem.run_pure, Result.andThen_ok, run_underlying hu, Bool.false_eq_true, if_false, run_load, hcell]
          · cases ha
        · cases ha
      · rename_i hk
        rw [← hp] at hx
        refine pv none ha (fun r hr => yields_aload I.toMemOk hx hr)
    · exact pv none ha (fun r hr => yields_aload I.toMemOk hx hr)
  | store ty x y =>
    simp only [hop] at ha ⊢
    obtain ⟨hh, hst, e⟩ := Option.map_eq_some_iff.1 ha
    simp only [Prod.mk.injEq] at e
    obtain ⟨rfl, rfl⟩ := e
    obtain ⟨w', hrun, hp⟩ := opPost_store I (Operand.tmp? y) (rel_see I x) (rel_aval I y) (fun g hg => own_src I hg) hst
    exact ⟨undef, w', .inr ⟨by simp [hrun], rfl⟩, hp⟩
  | nilCheck x =>
    simp only [hop] at ha ⊢
    have hx := rel_see I x
    split at ha
    · rename_i p off hp
      rw [hp] at hx
      have hx' := hx
      simp only [RelA] at hx'
      obtain ⟨b, _, e⟩ := hx'
      have hv := pm x ha (opPost_pure I none hx rfl)
      rw [e] at hv ⊢
      exact hv
    · rename_i cs hp
      rw [hp] at hx
      have hx' := hx
      simp only [RelA] at hx'
      obtain ⟨b, off, _, e, _⟩ := hx'
      have hv := pm x ha (opPost_pure I none hx rfl)
      rw [e] at hv ⊢
      exact hv
    · rename_i g caps hp
      rw [hp] at hx
      have hx' := hx
      simp only [RelA] at hx'
      obtain ⟨_, e, _⟩ := hx'
      have hv := pm x ha (opPost_pure I none hx rfl)
      rw [e] at hv ⊢
      exact hv
    · cases ha
  | binOp op ty x y z =>
    simp only [hop] at ha ⊢
    exact pv none ha (fun r hr => yields_abin (rel_see I x) (rel_see I y) hr x y)
  | unOp op ty x =>
    simp only [hop] at ha ⊢
    exact pv none ha (fun r hr => yields_aun (rel_see I x) hr)
  | convert s d x =>
    simp only [hop] at ha ⊢
    unfold aconvert at ha
    split at ha
    · refine pd ha (fun r hr => ?_)
      unfold aconvE at hr
      split at hr
      · rename_i e s' hk0 hk hx
        split at hr
        · rename_i he
          simp only [Option.some.injEq] at hr
          subst hr
          have hrel := rel_aval I x
          rw [hx] at hrel
          rw [relA_str hrel]
          exact opPost_strBytes I _ (tk_under hk0) (kOf_slice (tk_kOf hk)) (kOf_int (tk_kOf he))
        · cases hr
      · rename_i e e' e'' l hk0 hk hx
        split at hr
        · rename_i he
          split at hr
          · rename_i hc
            simp only [Option.some.injEq] at hr
            subst hr
            obtain ⟨rfl, rfl, rfl, hl⟩ := hc
            have hrel := rel_aval I x
            have hown := fun g hg => own_src (x := x) (g := g) I hg
            rw [hx] at hrel hown
            obtain ⟨w', h1, h2⟩ := opPost_mark I (Operand.tmp? x) (kOf_slice (tk_kOf hk)) (kOf_int (tk_kOf he)) hrel hl (fun g hg => hown g (by simpa only [ub] using hg))
            exact ⟨_, w', h1, h2⟩
          · cases hr
        · cases hr
      · cases hr
    · exact pv _ ha (fun r hr => yields_aconvP (rel_see I x) hr)
  | makeFunc fn first caps =>
    simp only [hop] at ha ⊢
    cases fn with
    | func g =>
      simp only at ha
      split at ha
      · rename_i hz
        refine pv none ha (fun r hr => ?_)
        simp only [Option.some.injEq] at hr
        subst hr
        have hf : first = #[] := Array.eq_empty_of_size_eq_zero hz
        subst hf
        refine ⟨rfl, _, rfl, ?_⟩
        simp only [RelA]
        have e : caps.map a.eval = (caps.toList.map a.eval).toArray := Array.ext' (by rw [Array.toList_map])
        exact ⟨caps.toList.map a.eval, by rw [e]; simp, relAs_map I _⟩
      · cases ha
    | _ => simp only at ha; cases ha
  | slice ty x lo hi mx =>
    simp only [hop] at ha ⊢
    cases mx with
    | some m =>
      simp only at ha
      exact pd ha (fun r hr => opPost_slice0 I (rel_see I x) (relO_map (fun y => rel_see I y) lo) (relO_map (fun y => rel_see I y) hi) (rel_see I m) hr)
    | none =>
      simp only at ha
      exact pv none ha (fun r hr => yields_aslice (rel_see I x) (relO_map (fun y => rel_see I y) lo) (relO_map (fun y => rel_see I y) hi) hr)
  | fieldAddr ty x i =>
    simp only [hop] at ha ⊢
    exact pv none ha (fun r hr => yields_afieldAddr (rel_see I x) hr)
  | field ty x i =>
    simp only [hop] at ha ⊢
    exact pv none ha (fun r hr => yields_afield (rel_see I x) hr)
  | indexAddr ty x i =>
    simp only [hop] at ha ⊢
    exact pv none ha (fun r hr => yields_aindexAddr (rel_see I x) (rel_see I i) hr)
  | index ty x i =>
    simp only [hop] at ha ⊢
    exact pv none ha (fun r hr => yields_aindex (rel_see I x) (rel_see I i) hr)
  | extract x i =>
    simp only [hop] at ha ⊢
    exact pv none ha (fun r hr => yields_aextract (rel_see I x) hr)
  | call c =>
    simp only [hop] at ha ⊢
    have hcall : ∀ (b : Builtin) (xs : List Operand), c.callee = .builtin b → c.args.toList = xs →
        (do let d ← resolve a.eval c o.type; invoke d.target d.args : Sem Next) = builtin b c.argTypes o.type (c.args.map fun | .const _ => true | _ => false) (xs.map a.eval).toArray := by
      intro b xs hb hxs
      have e : c.args.map a.eval = (xs.map a.eval).toArray := by rw [← hxs]; apply Array.ext'; simp
      unfold resolve
      rw [hb]
      simp only [pure_bind, e]
      rfl
    split at ha
    · rename_i x y hb hxs
      split at ha
      · rename_i hsz
        rw [hcall _ _ hb hxs, hb, hxs]
        exact pd ha (fun r hr => opPost_append I (Operand.tmp? x) (rel_aval I x) (rel_see I y) (fun g hg => own_src I hg) hr hsz)
      · cases ha
    · rename_i x hb hxs
      rw [hcall _ _ hb hxs, hb, hxs]
      exact pv none ha (fun r hr => yields_alen (rel_see I x) hr)
    · rename_i x y hb hxs
      rw [hcall _ _ hb hxs, hb, hxs]
      exact pv none ha (fun r hr => yields_aminmax_min (rel_see I x) (rel_see I y) hr)
    · rename_i x y hb hxs
      rw [hcall _ _ hb hxs, hb, hxs]
      exact pv none ha (fun r hr => yields_aminmax_max (rel_see I x) (rel_see I y) hr)
    · cases ha
  | _ => simp only [hop] at ha; cases ha

end
end Go.AM
