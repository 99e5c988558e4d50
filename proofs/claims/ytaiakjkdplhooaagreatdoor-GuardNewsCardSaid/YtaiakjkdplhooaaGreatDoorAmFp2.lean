/- Each operation's footprint is what it says. -/
import Derived.Test.YtaiakjkdplhooaaGreatDoorAmFp
import Derived.Test.YtaiakjkdplhooaaGreatDoorAmMem
namespace Go.AM
open Go

section
variable {C : Ctx} {ops : Array Oper} {f : FuncId}

theorem pick_cong {i : TI} {cs cs2 : List AV} {a : Nat} {r : AV} (h1 : i.k.isAgg = false → i.size = 1) (hl : cs2.length = cs.length) (he : ∀ (j : Nat), a ≤ j → j < a + i.size → cs2[j]? = cs[j]?)
    (hp : pick i (cs.drop a) = some r) : pick i (cs2.drop a) = some r := by
  unfold pick at hp ⊢
  cases hk : i.k.isAgg with
  | true =>
    simp only [hk, if_true] at hp ⊢
    split at hp
    · rename_i hs
      rw [if_pos (by simp only [List.length_drop] at hs ⊢; omega)]
      have e : (cs2.drop a).take i.size = (cs.drop a).take i.size := by
        apply List.ext_getElem?
        intro j
        rw [List.getElem?_take, List.getElem?_take]
        split
        · rw [List.getElem?_drop, List.getElem?_drop]; exact he _ (by omega) (by omega)
        · rfl
      rw [e]; exact hp
    · cases hp
  | false =>
    simp only [hk, Bool.false_eq_true, if_false] at hp ⊢
    rw [List.head?_drop] at hp ⊢
    rw [he a (by omega) (by rw [h1 hk]; omega)]
    exact hp

theorem aop_fp {t : List AV} {h h' : H} {o : Oper} {r : AV} (ha : aop C f t h o = some (r, h')) (L : List Nat) :
    FpOk (fun h r h' => aop C f t h o = some (r, h')) (fpOf C f t h o h' L) h r h' := by
  have pp : ∀ (X : Option AV), (∀ h2, aop C f t h2 o = X.map (fun a => (a, h2))) → FpOk (fun h r h' => aop C f t h o = some (r, h')) .pure h r h' := by
    intro X hX
    rw [hX h] at ha
    obtain ⟨b, hb, e⟩ := Option.map_eq_some_iff.1 ha
    simp only [Prod.mk.injEq] at e
    obtain ⟨rfl, rfl⟩ := e
    exact ⟨rfl, fun h2 => by show aop C f t h2 o = some (b, h2); rw [hX h2, hb]; rfl⟩
  obtain ⟨dst, op, type, pos, after, guard⟩ := o
  cases op
  case move x =>
    refine pp (match dst with | some d => if C.pol.take f d then some (aval C t x) else some (see C t x) | none => some (see C t x)) (fun h2 => ?_)
    simp only [aop]
    cases dst with
    | none => rfl
    | some d => simp only; split <;> rfl
  case assign x => exact pp (some (aval C t x)) (fun h2 => rfl)
  case pick c a b =>
    refine pp (match see C t c with | .pv (.bool true) => some (see C t a) | .pv (.bool false) => some (see C t b) | _ => none) (fun h2 => ?_)
    simp only [aop]
    generalize see C t c = z
    cases z with
    | pv p => cases p with
      | bool b => cases b <;> rfl
      | _ => rfl
    | _ => rfl
  case alloc ty =>
    simp only [aop] at ha ⊢
    obtain ⟨i, hi, e⟩ := Option.map_eq_some_iff.1 ha
    simp only [Prod.mk.injEq] at e
    obtain ⟨rfl, rfl⟩ := e
    exact ⟨rfl, i.zero, rfl, fun h2 hl => by rw [hi]; simp only [Option.map_some, hl]⟩
  case box ty x =>
    simp only [aop] at ha ⊢
    obtain ⟨i, hi, e⟩ := Option.map_eq_some_iff.1 ha
    simp only [Prod.mk.injEq] at e
    obtain ⟨rfl, rfl⟩ := e
    exact ⟨rfl, i, rfl, fun h2 hl => by rw [hi]; simp only [Option.map_some, hl]⟩
  case build ty ps => exact pp (abuild C ty (ps.toList.map fun p => (p.1, (aval C t p.2).downN))) (fun h2 => rfl)
  case buildSlice ty n ps => exact pp (abuildSlice C ty n (ps.toList.map fun p => (p.1, see C t p.2))) (fun h2 => rfl)
  case load ty x =>
    by_cases hx : ∃ p off, see C t x = .ptr p off
    · obtain ⟨p, off, hx⟩ := hx
      simp only [aop, fpOf, hx] at ha ⊢
      cases hi : C.ti ty with
      | none => trivial
      | some i =>
        cases hd : dst with
        | none => trivial
        | some d =>
          simp only [hd] at ha ⊢
          by_cases htk : (C.pol.take f d && isSlice C ty) = true
          · simp only [htk, if_true] at ha ⊢
            cases hp : h[p]? with
            | none => simp only [hp] at ha; cases ha
            | some cs =>
              simp only [hp] at ha
              cases ho : cs[off]? with
              | none => simp only [ho] at ha; cases ha
              | some b =>
                simp only [ho, Option.some.injEq, Prod.mk.injEq] at ha
                obtain ⟨rfl, rfl⟩ := ha
                have hlt := lt_of_some ho
                have hset : ∀ (cs : List AV), off < cs.length → cs.set off b.down = splice cs off [b.down] := fun cs hl => by
                  rw [List.set_eq_take_append_cons_drop, if_pos hl]
                  simp [splice]
                refine ⟨cs, [b.down], hp, rfl, by omega, ?_, ?_⟩
                · unfold wrH; rw [List.getD_eq_getElem?_getD, hp, Option.getD_some, hset cs hlt]
                · rintro h2 ⟨cs', cs2, e1, e2, e3, e4⟩
                  rw [hp] at e1; cases e1
                  have e5 := e4 off (by omega) (by omega)
                  rw [e2]
                  simp only [e5, ho]
                  unfold wrH
                  rw [List.getD_eq_getElem?_getD, e2, Option.getD_some, hset cs2 (by omega)]
          · simp only [htk] at ha ⊢
            obtain ⟨b, hb, e⟩ := Option.map_eq_some_iff.1 ha
            simp only [Prod.mk.injEq] at e
            obtain ⟨rfl, rfl⟩ := e
            simp only [aload, hi] at hb
            cases hp : h[p]? with
            | none => simp only [hp] at hb; cases hb
            | some cs =>
              simp only [hp] at hb
              refine ⟨rfl, ⟨cs, hp⟩, ?_⟩
              rintro h2 ⟨cs', cs2, e1, e2, e3, e4⟩
              rw [hp] at e1; cases e1
              have : aload C h2 ty (.ptr p off) = some b := by
                simp only [aload, hi, e2]
                exact pick_cong (fun hk => ti_one hi hk) e3 e4 hb
              simp [this]
    · have hfp : fpOf C f t h ⟨dst, .load ty x, type, pos, after, guard⟩ h' L = .pure := by
        simp only [fpOf]
        cases hz : see C t x with
        | ptr p off => exact absurd ⟨_, _, hz⟩ hx
        | _ => rfl
      rw [hfp]
      have hal : ∀ h2, aload C h2 ty (see C t x) = aload C [] ty (see C t x) := by
        intro h2
        unfold aload
        cases hz : see C t x with
        | ptr p off => exact absurd ⟨_, _, hz⟩ hx
        | _ => cases C.ti ty <;> rfl
      refine pp (aload C [] ty (see C t x)) (fun h2 => ?_)
      rw [← hal h2]
      simp only [aop]
      cases hz : see C t x with
      | ptr p off => exact absurd ⟨_, _, hz⟩ hx
      | _ => cases dst <;> rfl
  case store ty x y =>
    simp only [aop] at ha ⊢
    obtain ⟨b, hb, e⟩ := Option.map_eq_some_iff.1 ha
    simp only [Prod.mk.injEq] at e
    obtain ⟨rfl, rfl⟩ := e
    simp only [fpOf]
    unfold astore at hb
    split at hb
    · rename_i i p off vs hi hx hc
      simp only [hi, hx]
      cases hp : h[p]? with
      | none => simp only [hp] at hb; cases hb
      | some cs =>
        simp only [hp] at hb
        split at hb
        · rename_i hl
          simp only [Option.some.injEq] at hb
          subst hb
          refine ⟨cs, vs, hp, hl.1, by omega, ?_, ?_⟩
          · unfold wrH; rw [List.getD_eq_getElem?_getD, hp, Option.getD_some]
          · rintro h2 ⟨cs', cs2, e1, e2, e3, e4⟩
            rw [hp] at e1; cases e1
            unfold astore
            simp only [hi, hc, e2]
            rw [if_pos ⟨hl.1, by omega⟩]
            unfold wrH
            rw [List.getD_eq_getElem?_getD, e2, Option.getD_some]
            rfl
        · cases hb
    · cases hb
  case nilCheck x =>
    refine pp (match see C t x with | .ptr p off => some (.ptr p off) | .view cs => some (.view cs) | .fn g caps => some (.fn g caps) | _ => none) (fun h2 => ?_)
    simp only [aop]
    cases see C t x <;> rfl
  case binOp op ty x y _ => exact pp (abin C op ty (see C t x) (see C t y)) (fun h2 => rfl)
  case unOp op _ x => exact pp (aun op (see C t x)) (fun h2 => rfl)
  case convert a b x => exact pp (aconvert C a b (aval C t x)) (fun h2 => rfl)
  case makeFunc fn first caps =>
    cases fn with
    | func g =>
      refine pp (if first.size = 0 then some (.fn g (caps.toList.map fun x => see C t x)) else none) (fun h2 => ?_)
      simp only [aop]
      split <;> rfl
    | _ => simp only [aop] at ha; cases ha
  case slice ty x lo hi mx =>
    cases mx with
    | none => exact pp (aslice C ty (see C t x) (lo.map (see C t)) (hi.map (see C t))) (fun h2 => rfl)
    | some m => exact pp (aslice0 C ty (see C t x) (lo.map (see C t)) (hi.map (see C t)) (see C t m)) (fun h2 => rfl)
  case fieldAddr ty x i => exact pp (afieldAddr C ty (see C t x) i) (fun h2 => rfl)
  case field ty x i => exact pp (afield C ty (see C t x) i) (fun h2 => rfl)
  case indexAddr ty x i => exact pp (aindexAddr C ty (see C t x) (see C t i)) (fun h2 => rfl)
  case index ty x i => exact pp (aindex C ty (see C t x) (see C t i)) (fun h2 => rfl)
  case extract x i => exact pp (aextract (see C t x) i) (fun h2 => rfl)
  case call c =>
    obtain ⟨cal, args, ts⟩ := c
    simp only [aop, fpOf] at ha ⊢
    cases cal with
    | value g => simp only at ha; cases ha
    | invoke g n => simp only at ha; cases ha
    | builtin b =>
      simp only
      refine pp (match (Callee.builtin b), args.toList with
        | .builtin .append, [x, y] => if ts.size = 2 then aappend C ts (aval C t x) (see C t y) else none
        | .builtin .len, [x] => alen C ts (see C t x)
        | .builtin .min, [x, y] => aminmax false [see C t x, see C t y]
        | .builtin .max, [x, y] => aminmax true [see C t x, see C t y]
        | _, _ => none) (fun h2 => ?_)
      simp only [aop]
      clear ha pp
      generalize args.toList = xs
      rcases xs with _ | ⟨x, _ | ⟨y, _ | ⟨z, r⟩⟩⟩ <;> cases b <;> first | rfl | (simp only; split <;> rfl)
  all_goals (simp only [aop] at ha; cases ha)

end
end Go.AM
