/- Functions: what the abstract machine answers, the model does. -/
import Derived.Test.YtaiakjkdplhooaaGreatDoorAmLog
namespace Go.AM
open Go

section
variable {C : Ctx} {f : FuncId} {w0 : World} {G0 : Nat → Nat} {ρ0 : List Nat} {S0 : Nat → Prop}

theorem run_result {w : World} {G : Nat → Nat} {ρ : List Nat} {s : AS} {a : Act} (I : Inv C w G ρ s.t a.tmps.toList s.h) (x : ResultVar) {r : AV} (h : aresult C s x = some r) :
    ∃ v, ((match x with
      | .tmp t => pure (a.tmps.getD t undef)
      | .cell b t => do loadVar t (← asAddr (a.tmps.getD b undef)) : Sem Value)).run C.P w = .ok v w ∧ RelA C w G ρ r v ∧
      ∀ g, ub r v = some g → ∃ i, x = .tmp i ∧ OwnsAt w ρ s.t a.tmps.toList s.h (.t i) g := by
  have hget : ∀ i, RelA C w G ρ (s.t.getD i .any) (a.tmps.getD i undef) ∧ ∀ g, ub (s.t.getD i .any) (a.tmps.getD i undef) = some g → OwnsAt w ρ s.t a.tmps.toList s.h (.t i) g := by
    intro i
    have hlen := I.len
    rw [List.getD_eq_getElem?_getD]
    cases hi : s.t[i]? with
    | none => exact ⟨by simp [RelA], fun g hg => by simp [ub] at hg⟩
    | some b =>
      have hlt : i < a.tmps.size := by
        have := lt_of_some hi
        simp only [Array.length_toList] at hlen
        exact Nat.lt_of_lt_of_eq this hlen
      have hv : a.tmps.toList[i]? = some (a.tmps.getD i undef) := by
        rw [Array.getElem?_toList, Array.getElem?_eq_getElem hlt]
        simp [Array.getD, hlt]
      exact ⟨I.rel i b _ hi hv, fun g hg => ⟨b, _, hi, hv, hg⟩⟩
  cases x with
  | tmp i =>
    simp only [aresult, Option.some.injEq] at h
    subst h
    exact ⟨_, rfl, (hget i).1, fun g hg => ⟨i, rfl, (hget i).2 g hg⟩⟩
  | cell i ty =>
    simp only [aresult] at h
    obtain ⟨hlent, v, hrun, hrel⟩ := yields_aload I.toMemOk (hget i).1 h
    refine ⟨v, ?_, hrel, fun g hg => by rw [ub_lent hlent] at hg; cases hg⟩
    have : ∃ ad, a.tmps.getD i undef = .pointer (some ad) := by
      have h1 := (hget i).1
      cases hx : s.t.getD i .any with
      | ptr o off => rw [hx] at h1; simp only [RelA] at h1; obtain ⟨b, _, e⟩ := h1; exact ⟨_, e⟩
      | view cs => rw [hx] at h1; simp only [RelA] at h1; obtain ⟨b, off, vs, e, _⟩ := h1; exact ⟨_, e⟩
      | _ => rw [hx] at h; unfold aload at h; split at h <;> first | cases h | (rename_i hh; cases hh) | (rename_i _ hh; cases hh)
    obtain ⟨ad, had⟩ := this
    simp only [had, Instr.loadAt, Instr.sureAddr, Sem.run_bind, Sem.run_pure, Result.andThen_ok] at hrun ⊢
    simp only [asAddr, Sem.run_pure, Result.andThen_ok]
    exact hrun

theorem run_results {w : World} {G : Nat → Nat} {ρ : List Nat} {s : AS} {a : Act} (I : Inv C w G ρ s.t a.tmps.toList s.h) : ∀ (xs : List ResultVar) (l : List AV), aresults C s xs = some l →
    ∃ vs, (xs.mapM (fun x => match x with
      | .tmp t => pure (a.tmps.getD t undef)
      | .cell b t => do loadVar t (← asAddr (a.tmps.getD b undef)) : ResultVar → Sem Value)).run C.P w = .ok vs w ∧ l.length = vs.length ∧
      ∀ (i : Nat) (r : AV) (v : Value), l[i]? = some r → vs[i]? = some v → RelA C w G ρ r v ∧ ∀ g, ub r v = some g → ∃ j, OwnsAt w ρ s.t a.tmps.toList s.h (.t j) g
  | [], l, h => by
    simp only [aresults, Option.some.injEq] at h
    subst h
    exact ⟨[], rfl, rfl, fun i r v h => by simp at h⟩
  | x :: xs, l, h => by
    simp only [aresults] at h
    split at h
    · rename_i r l' hr hl'
      simp only [Option.some.injEq] at h
      subst h
      obtain ⟨v, h1, h2, h3⟩ := run_result I x hr
      obtain ⟨vs, k1, k2, k3⟩ := run_results I xs l' hl'
      refine ⟨v :: vs, ?_, by simp [k2], fun i r' v' hi hv => ?_⟩
      · simp only [List.mapM_cons, Sem.run_bind, Sem.run_pure]
        rw [h1]
        simp only [Result.andThen_ok]
        rw [k1]
        simp only [Result.andThen_ok]
      · cases i with
        | zero =>
          simp at hi hv
          subst hi hv
          exact ⟨h2, fun g hg => by obtain ⟨j, _, ho⟩ := h3 g hg; exact ⟨j, ho⟩⟩
        | succ i => exact k3 i r' v' (by simpa using hi) (by simpa using hv)
    · cases h

theorem relAs_deep {w : World} {G : Nat → Nat} {ρ : List Nat} : ∀ (l : List AV) (vs : List Value), l.length = vs.length → (∀ (i : Nat) (r : AV) (v : Value), l[i]? = some r → vs[i]? = some v → RelA C w G ρ r v) → RelAs C w G ρ (l.map .deep) vs
  | [], [], _, _ => by simp [RelAs]
  | [], _ :: _, h, _ => by simp at h
  | _ :: _, [], h, _ => by simp at h
  | a :: r, v :: vs, hl, h => by
    simp only [List.map_cons, RelAs]
    exact ⟨v, vs, rfl, lent_deep a, RelA_deep (h 0 a v rfl rfl), relAs_deep r vs (by simpa using hl) (fun i r' v' h1 h2 => h (i + 1) r' v' (by simpa using h1) (by simpa using h2))⟩

/-- A call's end. -/
theorem ret_sound (hg : GlobOk C) {s : AS} {a : Act} {w : World} (hst : St C w0 G0 ρ0 S0 s a w) {fn : Func} {l : List AV} (hr : aresults C s fn.results.toList = some l) {n : Nat} (hn : ρ0.length ≤ n) :
    ∃ v, (results fn a.tmps).run C.P w = .ok v w ∧ RetPost C w0 G0 ρ0 S0 (single l) (trunc n [single l] s.h) v w := by
  obtain ⟨hd, G, ρ, hp, I, T⟩ := hst
  obtain ⟨vs, h1, h2, h3⟩ := run_results I fn.results.toList l hr
  have hrun : (results fn a.tmps).run C.P w = .ok (if h : vs.toArray.size = 1 then vs.toArray[0] else .tuple vs.toArray) w := by
    unfold results
    rw [Array.mapM_eq_mapM_toList]
    simp only [Sem.run_bind, map_eq_pure_bind]
    have := congrArg (fun r : Result (List Value) => (r.andThen fun a w' => Sem.run C.P (pure a.toArray) w').andThen fun a w' => Sem.run C.P (pure (if h : a.size = 1 then a[0] else Value.tuple a)) w') h1
    refine Eq.trans this ?_
    simp only [Result.andThen_ok, Sem.run_pure]
  have hout : ∃ v, (if h : vs.toArray.size = 1 then vs.toArray[0] else .tuple vs.toArray) = v ∧ RelA C w G ρ (single l) v ∧ ∀ g, ub (single l) v = some g → ∃ j, OwnsAt w ρ s.t a.tmps.toList s.h (.t j) g := by
    refine ⟨_, rfl, ?_⟩
    match l, vs, h2, h3 with
    | [x], [v], _, h3 =>
      obtain ⟨k1, k2⟩ := h3 0 x v rfl rfl
      show RelA C w G ρ (single [x]) v ∧ ∀ g, ub (single [x]) v = some g → _
      cases x with
      | agg cs => exact ⟨by have := RelA_deep k1; simpa only [AV.deep, single] using this, fun g hg => by simp [single, ub] at hg⟩
      | _ => exact ⟨k1, k2⟩
    | [], [], _, _ => exact ⟨by simp only [single, RelA]; exact ⟨[], rfl, by simp [RelAs]⟩, fun g hg => by simp [single, ub] at hg⟩
    | x :: y :: r, v :: u :: q, hl, h3 =>
      have e : single (x :: y :: r) = .tup ((x :: y :: r).map .deep) := by cases x <;> rfl
      rw [e]
      refine ⟨?_, fun g hg => by simp [ub] at hg⟩
      have e2 : (if h : (v :: u :: q).toArray.size = 1 then (v :: u :: q).toArray[0] else Value.tuple (v :: u :: q).toArray) = .tuple (v :: u :: q).toArray := by
        rw [dif_neg (by simp)]
      rw [e2]
      simp only [RelA]
      exact ⟨_, rfl, relAs_deep _ _ hl (fun i r v h1 h2 => (h3 i r v h1 h2).1)⟩
    | [], _ :: _, hl, _ => simp at hl
    | [_], [], hl, _ => simp at hl
    | [_], _ :: _ :: _, hl, _ => simp at hl
    | _ :: _ :: _, [], hl, _ => simp at hl
    | _ :: _ :: _, [_], hl, _ => simp at hl
  obtain ⟨v, hv, hrel, hown⟩ := hout
  rw [hv] at hrun
  refine ⟨v, hrun, ?_⟩
  have key : ∀ x g, OwnsAt w ρ [single l] [v] s.h x g → ∃ y, OwnsAt w ρ s.t a.tmps.toList s.h y g ∧ ∀ p j, x = .o p j → y = x := by
    intro x g hx
    cases x with
    | t i =>
      obtain ⟨b, u, hb, hu, hub⟩ := hx
      cases i with
      | zero =>
        simp at hb hu
        subst hb hu
        obtain ⟨j, ho⟩ := hown g hub
        exact ⟨_, ho, fun p j e => by cases e⟩
      | succ i => simp at hb
    | o p j => exact ⟨.o p j, hx, fun _ _ _ => rfl⟩
  have I1 : Inv C w G ρ [single l] [v] s.h := { I with
    len := rfl
    rel := fun i b u hb hu => by
      cases i with
      | zero => simp at hb hu; subst hb hu; exact hrel
      | succ i => simp at hb
    uniq := fun x y g hx hy => by
      cases x with
      | t i =>
        obtain ⟨b, u, hb, hu, hub⟩ := hx
        cases i with
        | succ i => simp at hb
        | zero =>
          simp at hb hu
          subst hb hu
          obtain ⟨j, ho⟩ := hown g hub
          cases y with
          | t i' =>
            obtain ⟨b', u', hb', _⟩ := hy
            cases i' with
            | zero => rfl
            | succ i' => simp at hb'
          | o p k => exact absurd (I.uniq _ (.o p k) g ho hy) (by simp)
      | o p j =>
        cases y with
        | t i' =>
          obtain ⟨b', u', hb', hu', hub'⟩ := hy
          cases i' with
          | succ i' => simp at hb'
          | zero =>
            simp at hb' hu'
            subst hb' hu'
            obtain ⟨j', ho⟩ := hown g hub'
            exact absurd (I.uniq _ (.o p j) g ho hx) (by simp)
        | o q k => exact I.uniq (.o p j) (.o q k) g hx hy
    sep := fun x g hx => by
      obtain ⟨y, hy, _⟩ := key x g hx
      exact I.sep y g hy }
  obtain ⟨ρ', hp', I2, k2⟩ := inv_trunc hg I1 n hp hn
  refine ⟨G, ρ', hp', I2, T.weaken (fun _ h => h) (fun b hb => ?_)⟩
  rcases k2 b hb with h | ⟨x, h⟩
  · exact .inl h
  · obtain ⟨y, hy, _⟩ := key x b h
    exact .inr ⟨y, hy⟩

theorem body_sound (hC : CtxOk C) (hg : GlobOk C) {call : ACall} (hcall : CallOk C call) {n : Nat} {args : List AV} {h h' : H} {r : AV} {L : List Nat} (hb : abody C call n f args h = some (r, h', L)) : FnDoes C f args h r h' := by
  intro w G ρ vs I
  unfold abody at hb
  split at hb
  · rename_i fn hf
    split at hb
    · rename_i c hc
      have hlen := I.len
      refine .inl ⟨?_, ?_⟩
      · have hn := hC.noNG f fn hf
        unfold callFunc
        have hp : (program : Sem Program).run C.P w = .ok C.P w := rfl
        rw [Sem.run_bind, hp]
        simp only [Result.andThen_ok, hf, hn, hc, Option.isNone_some, Bool.false_eq_true, if_false, Sem.run_pure]
      · refine calls_of_wp hf hc ?_
        let vs' : List Value := vs ++ List.replicate (fn.ntmps - args.length) undef
        have hvs : (vs.toArray ++ Array.replicate (fn.ntmps - vs.toArray.size) undef).toList = vs' := by simp [vs', hlen]
        have key : ∀ x g, OwnsAt w ρ (args ++ List.replicate (fn.ntmps - args.length) .any) vs' h x g → OwnsAt w ρ args vs h x g := by
          intro x g hx
          cases x with
          | t i =>
            obtain ⟨b, u, hb, hu, hub⟩ := hx
            rcases Nat.lt_or_ge i args.length with hlt | hge
            · rw [List.getElem?_append_left hlt] at hb
              rw [List.getElem?_append_left (by omega)] at hu
              exact ⟨b, u, hb, hu, hub⟩
            · rw [List.getElem?_append_right hge] at hb
              have := List.mem_of_getElem? hb
              rw [List.mem_replicate] at this
              rw [this.2] at hub
              simp [ub] at hub
          | o p j => exact hx
        have I1 : Inv C w G ρ (args ++ List.replicate (fn.ntmps - args.length) .any) vs' h := { I with
          len := by simp [vs', hlen]
          rel := fun i b u hb hu => by
            rcases Nat.lt_or_ge i args.length with hlt | hge
            · rw [List.getElem?_append_left hlt] at hb
              rw [List.getElem?_append_left (by omega)] at hu
              exact I.rel i b u hb hu
            · rw [List.getElem?_append_right hge] at hb
              have := List.mem_of_getElem? hb
              rw [List.mem_replicate] at this
              rw [this.2]; simp [RelA]
          uniq := fun x y g hx hy => I.uniq x y g (key x g hx) (key y g hy)
          sep := fun x g hx => I.sep x g (key x g hx) }
        have hst : St C w G ρ (Touch w ρ args vs h) ⟨args ++ List.replicate (fn.ntmps - args.length) .any, h, []⟩ { tmps := vs.toArray ++ Array.replicate (fn.ntmps - vs.toArray.size) undef, defers := [] } w :=
          ⟨rfl, G, ρ, List.prefix_refl _, by simp only [hvs]; exact I1, Tr.refl (fun b hb => by
            simp only [hvs] at hb
            exact hb.imp id (fun ⟨x, hx⟩ => ⟨x, key x b hx⟩))⟩
        have hρ : ρ.length ≤ h.length := by rw [I.hlen]; exact Nat.le_refl _
        have fin : ∀ {s : AS} {l : List AV}, aresults C s fn.results.toList = some l → single l = r → trunc h.length [single l] s.h = h' → ∀ (a' : Act) (w' : World), St C w G ρ (Touch w ρ args vs h) s a' w' →
            (a'.defers = [] ∧ ∃ v, (results fn a'.tmps).run C.P w' = .ok v w' ∧ ∃ v', Ending.returned v = .returned v' ∧ RetPost C w G ρ (Touch w ρ args vs h) r h' v' w') := by
          intro s l hl e1 e2 a' w' hst'
          obtain ⟨v, h1, h2⟩ := ret_sound hg hst' hl hρ
          rw [e2, e1] at h2
          exact ⟨hst'.defers, v, h1, v, rfl, h2⟩
        split at hb
        · cases hb
        · rename_i e s hne hx
          split at hb
          · rename_i l hl
            simp only [Option.some.injEq, Prod.mk.injEq] at hb
            refine exec_sound hC.mixed hcall hg n c _ s e hx _ w _ hst (fun a' w' hst' => ?_)
            have := fin hl hb.1 hb.2.1 a' w' hst'
            cases e with
            | normal => exact this
            | ret => exact this
            | exit i => exact absurd rfl (hne i)
          · cases hb
        · cases hb
    · cases hb
  · cases hb

theorem body_keeps (hg : GlobOk C) {call : ACall} (hcall : CallOk C call) {n : Nat} {args : List AV} {h h' : H} {r : AV} {L : List Nat} (hb : abody C call n f args h = some (r, h', L)) : Keeps L h h' := by
  unfold abody at hb
  split at hb
  · split at hb
    · split at hb
      · cases hb
      · rename_i e s hne hx
        split at hb
        · rename_i l hl
          simp only [Option.some.injEq, Prod.mk.injEq] at hb
          obtain ⟨_, rfl, rfl⟩ := hb
          have h1 : LogOk h.length h s := log_exec hcall hg n _ _ _ _ hx ⟨Nat.le_refl _, fun _ _ _ => rfl⟩
          have h2 := log_trunc (t' := [single l]) (n := h.length) (t := s.t) (h := s.h) (L := s.wr) h1 (Nat.le_refl _)
          refine ⟨h2.1, fun p hp hn => h2.2 p hp (fun hm => hn ?_)⟩
          exact List.mem_filter.2 ⟨hm, by simpa using hp⟩
        · cases hb
      · cases hb
    · cases hb
  · cases hb

end
end Go.AM
