/- slices.Clone: a slice of its own with the same elements. -/
import Derived.Test.YtaiakjkdplhooaaGreatDoorAmCan
namespace Go.AM
open Go

section
variable {C : Ctx} {f : FuncId}

/-- A function's call, by its code's own proof. -/
theorem enter_does (hC : CtxOk C) {fn : Func} {c : Code} (hf : C.P.funcs[f]? = some fn) (hc : fn.body = some c) {args : List AV} {h h' : H} {r : AV}
    (H : ∀ (w : World) (G : Nat → Nat) (ρ : List Nat) (S : Nat → Prop) (a : Act), ρ.length ≤ h.length → St C w G ρ S ⟨args ++ List.replicate (fn.ntmps - args.length) .any, h, []⟩ a w →
      c.wp C.P (bodyPost C.P fn (fun e w' => ∃ v, e = .returned v ∧ RetPost C w G ρ S r h' v w')) a w) : FnDoes C f args h r h' := by
  intro w G ρ vs I
  have hlen := I.len
  refine .inl ⟨?_, ?_⟩
  · have hn := hC.noNG f fn hf
    unfold callFunc
    have hp : (program : Sem Program).run C.P w = .ok C.P w := rfl
    rw [Sem.run_bind, hp]
    simp only [Result.andThen_ok, hf, hn, hc, Option.isNone_some, Bool.false_eq_true, if_false, Sem.run_pure]
  · refine calls_of_wp hf hc ?_
    let vs' : List Value := vs ++ List.replicate (fn.ntmps - args.length) undef
    have hvs : (vs.toArray ++ Array.replicate (fn.ntmps - vs.toArray.size) undef).toList = vs' := by simp [vs', hlen]
    have key : ∀ x g, OwnsAt w ρ (args ++ List.replicate (fn.ntmps - args.length) .any) vs' h x g → OwnsAt w ρ args vs h x g := by
      intro x g hx
      cases x with
      | t i =>
        obtain ⟨b, u, hb, hu, hub⟩ := hx
        rcases Nat.lt_or_ge i args.length with hlt | hge
        · rw [List.getElem?_append_left hlt] at hb
          rw [List.getElem?_append_left (by omega)] at hu
          exact ⟨b, u, hb, hu, hub⟩
        · rw [List.getElem?_append_right hge] at hb
          have := List.mem_of_getElem? hb
          rw [List.mem_replicate] at this
          rw [this.2] at hub
          simp [ub] at hub
      | o p j => exact hx
    have I1 : Inv C w G ρ (args ++ List.replicate (fn.ntmps - args.length) .any) vs' h := { I with
      len := by simp [vs', hlen]
      rel := fun i b u hb hu => by
        rcases Nat.lt_or_ge i args.length with hlt | hge
        · rw [List.getElem?_append_left hlt] at hb
          rw [List.getElem?_append_left (by omega)] at hu
          exact I.rel i b u hb hu
        · rw [List.getElem?_append_right hge] at hb
          have := List.mem_of_getElem? hb
          rw [List.mem_replicate] at this
          rw [this.2]; simp [RelA]
      uniq := fun x y g hx hy => I.uniq x y g (key x g hx) (key y g hy)
      sep := fun x g hx => I.sep x g (key x g hx) }
    exact H w G ρ (Touch w ρ args vs h) _ (by rw [I.hlen]; exact Nat.le_refl _) ⟨rfl, G, ρ, List.prefix_refl _, by simp only [hvs]; exact I1, Tr.refl (fun b hb => by
      simp only [hvs] at hb
      exact hb.imp id (fun ⟨x, hx⟩ => ⟨x, key x b hx⟩))⟩

/-- One form of a result may be seen as another one. -/
theorem retPost_as {w w' : World} {G : Nat → Nat} {ρ : List Nat} {S : Nat → Prop} {r r' : AV} {h' : H} {v : Value} (hr : RetPost C w G ρ S r h' v w')
    (hrel : ∀ G' ρ', RelA C w' G' ρ' r v → RelA C w' G' ρ' r' v) (hub : ∀ g, ub r' v = some g → ub r v = some g) : RetPost C w G ρ S r' h' v w' := by
  obtain ⟨G', ρ', hp, J, T⟩ := hr
  have key : ∀ x g, OwnsAt w' ρ' [r'] [v] h' x g → OwnsAt w' ρ' [r] [v] h' x g := by
    intro x g hx
    cases x with
    | t i =>
      obtain ⟨b, u, hb, hu, hg⟩ := hx
      cases i with
      | zero => simp at hb hu; subst hb hu; exact ⟨r, v, rfl, rfl, hub g hg⟩
      | succ i => simp at hb
    | o p j => exact hx
  refine ⟨G', ρ', hp, { J with len := rfl, rel := fun i b u hb hu => ?_, uniq := fun x y g hx hy => J.uniq x y g (key x g hx) (key y g hy), sep := fun x g hx => J.sep x g (key x g hx) },
    T.weaken (fun _ h => h) (fun b hb => hb.imp id (fun ⟨x, hx⟩ => ⟨x, key x b hx⟩))⟩
  cases i with
  | zero => simp at hb hu; subst hb hu; exact hrel G' ρ' (J.rel 0 r v rfl rfl)
  | succ i => simp at hb

def cloneR0 (t : TypeId) : Code := .region 0 #[{ dst := some 2, op := .assign (.const (.slice none 0 0)), type := t, pos := "slices.go:355", after := #[], guard := none }] false
def cloneO1 (t : TypeId) : Oper := { dst := some 3, op := .move (.tmp 0), type := t, pos := "slices.go:357", after := #[], guard := none }
def cloneO2 (t : TypeId) : Oper := { dst := some 4, op := .binOp .eql t (.tmp 3) (.const (.slice none 0 0)) t, type := 4, pos := "slices.go:357", after := #[{ on := 0, ground := .data }], guard := none }
def cloneR2 (t : TypeId) : Code := .seq (.region 2 #[{ dst := some 2, op := .assign (.const (.slice none 0 0)), type := t, pos := "slices.go:358", after := #[], guard := none }] false) .ret
def cloneR3 (t : TypeId) : Code := .seq (.region 3 #[
  { dst := some 5, op := .buildSlice t 0 #[], type := t, pos := "slices.go:362", after := #[], guard := none },
  { dst := some 6, op := .move (.tmp 0), type := t, pos := "slices.go:362", after := #[], guard := none },
  { dst := some 7, op := .call { callee := .builtin .append, args := #[.tmp 5, .tmp 6], argTypes := #[t, t] }, type := t, pos := "slices.go:362", after := #[{ on := 0, ground := .data }, { on := 1, ground := .data }], guard := none },
  { dst := some 2, op := .assign (.tmp 7), type := t, pos := "slices.go:362", after := #[{ on := 2, ground := .data }, { on := 2, ground := .chain }, { on := 0, ground := .phase }, { on := 1, ground := .phase }, { on := 2, ground := .phase }], guard := none }] false) .ret
def cloneCode (t : TypeId) : Code := .seq (cloneR0 t) (.seq (.seq (.region 1 #[cloneO1 t, cloneO2 t] false) (.cond (.tmp 4) (cloneR2 t) .skip)) (cloneR3 t))

theorem eq_sl_nil {P : Program} {t e : TypeId} (h : P.underlying t = some (.slice e)) (d : Nat) (A : Option Addr) (n c : Nat) (w : World) : (Op.equalIn (d + 1) t (.slice A n c) (.slice none 0 0)).run P w = .ok A.isNone w := by
  cases A <;> simp [Op.equalIn, run_underlying h]

theorem nil_eql {P : Program} {t e : TypeId} (ht : P.underlying t = some (.slice e)) (A : Option Addr) (n c : Nat) (X Y : Operand) (w : World) :
    (do eqGuard .eql t X Y (.slice A n c) (.slice none 0 0); binOp .eql t (.slice A n c) (.slice none 0 0) : Sem Value).run P w = .ok (.bool A.isNone) w := by
  have h1 : eqGuard .eql t X Y (.slice A n c) (.slice none 0 0) = pure () := rfl
  have h2 : binOp .eql t (.slice A n c) (.slice none 0 0) = (do pure (.bool (← Op.equal t (.slice A n c) (.slice none 0 0)))) := rfl
  rw [h1, h2]
  simp only [Sem.run_bind, Sem.run_pure, Result.andThen_ok, equal_eq, eq_sl_nil ht]

theorem clone_r0 {call : ACall} {t : TypeId} {l : List PV} {h : H} {n : Nat} :
    aexec C call f n (cloneR0 t) ⟨[.pv (.sl l), .any, .any, .any, .any, .any, .any, .any], h, []⟩ = some (.normal, ⟨[.pv (.sl l), .any, .own none [], .any, .any, .any, .any, .any], h, []⟩) := rfl

theorem clone_r2 {call : ACall} {t : TypeId} {l : List PV} {h : H} {n : Nat} :
    aexec C call f n (cloneR2 t) ⟨[.pv (.sl l), .any, .own none [], .pv (.sl l), .pv (.bool true), .any, .any, .any], h, []⟩ =
      some (.ret, ⟨[.pv (.sl l), .any, .own none [], .pv (.sl l), .pv (.bool true), .any, .any, .any], h, []⟩) := rfl

theorem clone_r3 {call : ACall} {t e : TypeId} {i : TI} {l : List PV} {h : H} {n : Nat} (htk : C.tk t = some (.slice e)) (hi : C.ti e = some i) (htake : C.pol.take f 6 = false)
    (h1 : 0 < i.size) (h2 : 0 < i.bytes) (h3 : fits i.size l = true) (h4 : l.length * i.bytes ≤ 2 ^ 46) :
    aexec C call f n (cloneR3 t) ⟨[.pv (.sl l), .any, .own none [], .pv (.sl l), .pv (.bool false), .any, .any, .any], h, []⟩ =
      some (.ret, ⟨[.pv (.sl l), .any, .own (some e) l, .pv (.sl l), .pv (.bool false), .pv (.sl []), .pv (.sl l), .pv (.sl l)], h, []⟩) := by
  have h4' : (0 + l.length) * i.bytes ≤ 2 ^ 46 := by rw [Nat.zero_add]; exact h4
  have e1 : abuildSlice C t 0 [] = some (.own (some e) []) := by
    simp [abuildSlice, htk, hi, elems, h1]
  have e2 : aappend C #[t, t] (.own (some e) []) (.pv (.sl l)) = some (.own (some e) l) := by
    have a1 : ¬ i.size = 0 := by omega
    have a2 : ¬ i.bytes = 0 := by omega
    simp [aappend, htk, hi, h1, h2, h3, h4]
  simp [cloneR3, aexec, aops, aguard, astep, aop, owr, e1, e2, consumed, htake, putT, downT, aval, see, AV.down, Operand.tmp?]

theorem clone_o1 {t : TypeId} {l : List PV} {h : H} (htake3 : C.pol.take f 3 = false) (u : List AV) : aop C f (.pv (.sl l) :: u) h (cloneO1 t) = some (.pv (.sl l), h) ∧ consumed C f (cloneO1 t) = none := by
  refine ⟨?_, ?_⟩
  · simp [cloneO1, aop, htake3, see, aval, AV.down]
  · simp [cloneO1, consumed, htake3]

theorem clone_ret (hg : GlobOk C) {w0 w : World} {G0 : Nat → Nat} {ρ0 : List Nat} {S0 : Nat → Prop} {fn : Func} {s : AS} {r : AV} {a : Act} (hres : fn.results = #[.tmp 2]) (hst : St C w0 G0 ρ0 S0 s a w) (hr : s.t.getD 2 .any = r) (hsing : single [r] = r)
    (hn : ρ0.length ≤ s.h.length) {r' : AV} (hrel : ∀ v G' ρ', RelA C w G' ρ' r v → RelA C w G' ρ' r' v) (hub : ∀ v G' ρ' g, RelA C w G' ρ' r v → ub r' v = some g → ub r v = some g) :
    bodyPost C.P fn (fun e w' => ∃ v, e = Ending.returned v ∧ RetPost C w0 G0 ρ0 S0 r' s.h v w') .ret a w := by
  have hl : aresults C s fn.results.toList = some [r] := by rw [hres]; simp only [aresults, aresult, hr]
  obtain ⟨v, h1, h2⟩ := ret_sound hg hst hl hn
  have htr : trunc s.h.length [single [r]] s.h = s.h := by unfold trunc; split <;> simp
  rw [htr, hsing] at h2
  refine ⟨hst.defers, v, h1, v, rfl, ?_⟩
  have h2' := h2
  obtain ⟨G', ρ', _, J, _⟩ := h2'
  exact retPost_as h2 (hrel v) (fun g => hub v G' ρ' g (J.rel 0 r v rfl rfl))

theorem clone_does (hC : CtxOk C) (hg : GlobOk C) {fn : Func} {t e : TypeId} {i : TI} {l : List PV} {h : H} (hf : C.P.funcs[f]? = some fn) (hb : fn.body = some (cloneCode t)) (hn : fn.ntmps = 8)
    (hres : fn.results = #[.tmp 2]) (htk : C.tk t = some (.slice e)) (hi : C.ti e = some i) (htake3 : C.pol.take f 3 = false) (htake : C.pol.take f 6 = false)
    (h1 : 0 < i.size) (h2 : 0 < i.bytes) (h3 : fits i.size l = true) (h4 : l.length * i.bytes ≤ 2 ^ 46) : FnDoes C f [.pv (.sl l)] h (.own (some e) l) h := by
  refine enter_does hC hf hb (fun w G ρ S a hρ hst => ?_)
  let call : ACall := fun _ _ _ => none
  have hcall : CallOk C call := fun _ _ _ _ _ _ h => by cases h
  rw [hn] at hst
  refine wp_seq (exec_sound (f := f) hC.mixed hcall hg 0 (cloneR0 t) _ _ _ (clone_r0 (call := call)) a w _ hst (fun a1 w1 hst1 => ?_))
  refine wp_seq (wp_seq (wp_region ?_))
  show wpOps C.P _ _ [0, 1] a1 w1
  rw [wpOps_cons]
  obtain ⟨ho1, hcons⟩ := clone_o1 (C := C) (f := f) (t := t) (l := l) (h := h) htake3 [.any, .own none [], .any, .any, .any, .any, .any]
  refine step_sound (f := f) hst1 (i := 0) (o := cloneO1 t) rfl (.inl ⟨rfl, .inl ⟨ho1, hcons.symm⟩⟩) (fun a2 w2 hst2 => ?_)
  have hst2' : St C w G ρ S ⟨[.pv (.sl l), .any, .own none [], .pv (.sl l), .any, .any, .any, .any], h, []⟩ a2 w2 := hst2
  obtain ⟨hd2, G2, ρ2, hp2, I2, T2⟩ := hst2'
  have hrel := rel_see I2 (.tmp 3)
  have hsee : see C [.pv (.sl l), .any, .own none [], .pv (.sl l), .any, .any, .any, .any] (.tmp 3) = .pv (.sl l) := rfl
  simp only [hsee, RelA, RelP] at hrel
  obtain ⟨A, c, hv, hlc, hA⟩ := hrel
  have hu := kOf_slice (P := C.P) (t := t) (e := e) (tk_kOf htk)
  rw [wpOps_cons]
  unfold wpOp
  show (if Region.wanted (cloneO2 t) _ = true then _ else _)
  rw [if_pos (show Region.wanted (cloneO2 t) _ = true from rfl)]
  refine .inl ?_
  show Oper.upon C.P (cloneO2 t) a2 _ _ ((execOp a2.eval (cloneO2 t)).run C.P w2)
  have hrun : (execOp a2.eval (cloneO2 t)).run C.P w2 = .ok (.value (.bool A.isNone)) w2 := by
    show (do pure (.value (← (do eqGuard .eql t (.tmp 3) (.const (.slice none 0 0)) (a2.eval (.tmp 3)) (a2.eval (.const (.slice none 0 0))); binOp .eql t (a2.eval (.tmp 3)) (a2.eval (.const (.slice none 0 0))) : Sem Value))) : Sem Next).run C.P w2 = _
    have e1 : a2.eval (.const (.slice none 0 0)) = .slice none 0 0 := rfl
    rw [hv, e1, Sem.run_bind, nil_eql hu]
    rfl
  rw [hrun]
  have hst3 : St C w G ρ S ⟨[.pv (.sl l), .any, .own none [], .pv (.sl l), .pv (.bool A.isNone), .any, .any, .any], h, []⟩ (a2.put (some 4) (.bool A.isNone)) w2 :=
    st_put hd2 hp2 I2 T2 (opPost_pure I2 none (r := .pv (.bool A.isNone)) (v := .bool A.isNone) (by simp [RelA, RelP]) rfl) (some 4)
  show (Code.cond (.tmp 4) (cloneR2 t) .skip).wp C.P _ _ _
  cases A with
  | none =>
    have hl : l = [] := by
      rcases hA with hA | ⟨_, _, _, _, hA, _⟩
      · exact hA
      · cases hA
    subst hl
    refine exec_sound (f := f) hC.mixed hcall hg 0 (.cond (.tmp 4) (cloneR2 t) .skip) _ _ .ret (by simp only [aexec, Option.isNone_none]; exact clone_r2 (call := call)) _ _ _ hst3 (fun a4 w4 hst4 => ?_)
    refine clone_ret hg hres hst4 (r := .own none []) rfl rfl hρ (fun v G' ρ' hr => ?_) (fun v G' ρ' g hr hu => ?_)
    · simp only [RelA] at hr ⊢
      obtain ⟨_, rfl⟩ := hr
      exact .inl ⟨i, [], hi, by simp [RelPs], by simp, World.ownsRow_nil _ _ _ _, fun g hg => by simp [Value.ownBlock] at hg⟩
    · simp only [RelA] at hr
      obtain ⟨_, rfl⟩ := hr
      simp [ub, capBlock] at hu
  | some a0 =>
    refine exec_sound (f := f) hC.mixed hcall hg 0 (.cond (.tmp 4) (cloneR2 t) .skip) _ _ .normal (by simp only [aexec, Option.isNone_some]; rfl) _ _ _ hst3 (fun a4 w4 hst4 => ?_)
    show (cloneR3 t).wp C.P _ _ _
    refine exec_sound (f := f) hC.mixed hcall hg 0 (cloneR3 t) _ _ .ret (clone_r3 (call := call) htk hi htake h1 h2 h3 h4) _ _ _ hst4 (fun a5 w5 hst5 => ?_)
    exact clone_ret hg hres hst5 (r := .own (some e) l) rfl rfl hρ (fun v G' ρ' hr => hr) (fun v G' ρ' g hr hu => hu)

end
end Go.AM
