/- Code: what the abstract machine answers, the model does. -/
import Derived.Test.YtaiakjkdplhooaaGreatDoorAmDraw2
import Derived.LoopN
import Derived.Scope
namespace Go.AM
open Go

def AExit.to : AExit → Exit
  | .normal => .normal
  | .exit i => .exit i
  | .ret => .ret

section
variable {C : Ctx} {f : FuncId} {w0 : World} {G0 : Nat → Nat} {ρ0 : List Nat} {S0 : Nat → Prop}

theorem aops_sound {ops : Array Oper} {call : ACall} (hcall : CallOk C call) (hg : GlobOk C) {Q : Exit → Act → World → Prop} {s' : AS} (hQ : ∀ a' w', St C w0 G0 ρ0 S0 s' a' w' → Q .normal a' w') :
    ∀ (l : List Oper) (j : Nat) (s : AS) (a : Act) (w : World), (∀ (k : Nat) (o : Oper), l[k]? = some o → ops[j + k]? = some o) → aops C call f ops l s = some s' → St C w0 G0 ρ0 S0 s a w →
      wpOps C.P ops Q ((List.range l.length).map (j + ·)) a w
  | [], j, s, a, w, _, h, hst => by simp only [aops, Option.some.injEq] at h; subst h; exact hQ a w hst
  | o :: r, j, s, a, w, hl, h, hst => by
    have hl' : ∀ (k : Nat) (o : Oper), r[k]? = some o → ops[j + 1 + k]? = some o := fun k o h => by have := hl (k + 1) o (by simpa using h); rw [show j + 1 + k = j + (k + 1) by omega]; exact this
    have h0 : ops[j]? = some o := by simpa using hl 0 o rfl
    have e : (List.range (o :: r).length).map (j + ·) = j :: (List.range r.length).map (j + 1 + ·) := by
      rw [List.length_cons, List.range_succ_eq_map, List.map_cons, List.map_map]
      congr 1
      apply List.map_congr_left
      intro x _
      simp only [Function.comp]
      omega
    rw [e, wpOps_cons]
    simp only [aops] at h
    split at h
    · rename_i hgd
      split at h
      · rename_i s1 hs
        obtain ⟨W, _, _, rr, c, hres, _, het, _⟩ := astep_res hcall hg hgd hs
        refine step_sound hst h0 hres (fun a' w' hst' => ?_)
        rw [← het] at hst'
        exact aops_sound hcall hg hQ r (j + 1) s1 a' w' hl' h (st_wr hst')
      · cases h
    · rename_i hgd
      obtain ⟨rr, c, hres, _, het, _⟩ := skip_res (C := C) (f := f) (ops := ops) (o := o) hgd
      refine step_sound hst h0 hres (fun a' w' hst' => ?_)
      rw [← het] at hst'
      exact aops_sound hcall hg hQ r (j + 1) _ a' w' hl' h (st_wr hst')
    · cases h

/-! ### What nobody knows any more -/

theorem keepOnly_get (live : List Tmp) : ∀ (i : Nat) (t : List AV) (j : Nat), (keepOnly live i t)[j]? = t[j]?.map fun a => if live.contains (i + j) then a else .any
  | i, [], j => by simp [keepOnly]
  | i, a :: r, 0 => by simp [keepOnly]
  | i, a :: r, j + 1 => by
    simp only [keepOnly, List.getElem?_cons_succ]
    rw [keepOnly_get live (i + 1) r j, show i + 1 + j = i + (j + 1) by omega]

theorem inv_keep {w : World} {G : Nat → Nat} {ρ : List Nat} {t t' : List AV} {vs : List Value} {h : H} (I : Inv C w G ρ t vs h) (hl : t'.length = t.length)
    (ht : ∀ (j : Nat) (a : AV), t'[j]? = some a → a = .any ∨ t[j]? = some a) :
    Inv C w G ρ t' vs h ∧ ∀ x g, OwnsAt w ρ t' vs h x g → OwnsAt w ρ t vs h x g := by
  have key : ∀ x g, OwnsAt w ρ t' vs h x g → OwnsAt w ρ t vs h x g := by
    intro x g hx
    cases x with
    | t i =>
      obtain ⟨a, v, ha, hv, hu⟩ := hx
      rcases ht i a ha with rfl | h
      · simp [ub] at hu
      · exact ⟨a, v, h, hv, hu⟩
    | o p j => exact hx
  refine ⟨{ I with len := hl.trans I.len, rel := fun i a v ha hv => ?_, uniq := fun x y g hx hy => I.uniq x y g (key x g hx) (key y g hy), sep := fun x g hx => I.sep x g (key x g hx) }, key⟩
  rcases ht i a ha with rfl | h
  · simp [RelA]
  · exact I.rel i a v h hv

theorem inv_trunc {w : World} {G : Nat → Nat} {ρ : List Nat} {t : List AV} {vs : List Value} {h : H} (hg : GlobOk C) (I : Inv C w G ρ t vs h) (n : Nat) (hp : ρ0 <+: ρ) (hn : ρ0.length ≤ n) :
    ∃ ρ', ρ0 <+: ρ' ∧ Inv C w G ρ' t vs (trunc n t h) ∧ ∀ b, Touch w ρ' t vs (trunc n t h) b → Touch w ρ t vs h b := by
  unfold trunc
  split
  · rename_i hk
    simp only [Bool.and_eq_true] at hk
    rcases Nat.lt_or_ge n h.length with hlt | hge
    · have hlen : (h.take n).length = n := by rw [List.length_take]; omega
      have I' : Inv C w G ρ t vs (h.take n ++ h.drop n) := by rw [List.take_append_drop]; exact I
      obtain ⟨I1, key⟩ := inv_cut hg I' (by rw [hlen]; exact hk.1) (by rw [hlen]; exact hk.2)
      rw [hlen] at I1 key
      rw [List.take_append_drop] at key
      refine ⟨ρ.take n, ?_, I1, ?_⟩
      · obtain ⟨s, rfl⟩ := hp
        rw [List.take_append]
        rw [List.take_of_length_le hn]
        exact List.prefix_append _ _
      · rintro b (hb | ⟨x, hx⟩)
        · exact .inl (List.mem_of_mem_take hb)
        · exact .inr ⟨x, (key x b hx).1⟩
    · rw [List.take_of_length_le hge]
      exact ⟨ρ, hp, I, fun _ h => h⟩
  · exact ⟨ρ, hp, I, fun _ h => h⟩

theorem st_clean {s : AS} {a : Act} {w : World} (hg : GlobOk C) (hst : St C w0 G0 ρ0 S0 s a w) (live : Option (List Tmp × List Nat)) {n : Nat} (hn : ρ0.length ≤ n) : St C w0 G0 ρ0 S0 (cleanS live n s) a w := by
  cases live with
  | none => exact hst
  | some lW =>
    obtain ⟨l, W⟩ := lW
    obtain ⟨hd, G, ρ, hp, I, T⟩ := hst
    have hlen : ∀ (i : Nat) (t : List AV), (keepOnly l i t).length = t.length := by
      intro i t
      induction t generalizing i with
      | nil => rfl
      | cons a r ih => simp [keepOnly, ih]
    obtain ⟨I1, k1⟩ := inv_keep (t' := keepOnly l 0 s.t) I (hlen 0 s.t) (fun j a ha => by
      rw [keepOnly_get] at ha
      obtain ⟨b, hb, e⟩ := Option.map_eq_some_iff.1 ha
      split at e
      · exact .inr (by rw [← e]; exact hb)
      · exact .inl e.symm)
    obtain ⟨ρ', hp', I2, k2⟩ := inv_trunc hg I1 n hp hn
    refine ⟨hd, G, ρ', hp', I2, T.weaken (fun _ h => h) (fun b hb => ?_)⟩
    rcases k2 b hb with h | ⟨x, h⟩
    · exact .inl h
    · exact .inr ⟨x, k1 x b h⟩

theorem st_len {s : AS} {a : Act} {w : World} (hst : St C w0 G0 ρ0 S0 s a w) : ρ0.length ≤ s.h.length := by
  obtain ⟨_, G, ρ, hp, I, _⟩ := hst
  rw [I.hlen]
  exact hp.length_le

/-! ### Code -/

theorem exec_sound {call : ACall} (hm : C.P.follows .mixedOrders = true) (hcall : CallOk C call) (hg : GlobOk C) (n : Nat) :
    ∀ (c : Code) (s s' : AS) (e : AExit), aexec C call f n c s = some (e, s') → ∀ (a : Act) (w : World) (Q : Exit → Act → World → Prop), St C w0 G0 ρ0 S0 s a w →
      (∀ a' w', St C w0 G0 ρ0 S0 s' a' w' → Q e.to a' w') → c.wp C.P Q a w := by
  intro c
  induction c with
  | skip =>
    intro s s' e h a w Q hst hQ
    simp only [aexec, Option.some.injEq, Prod.mk.injEq] at h
    obtain ⟨rfl, rfl⟩ := h
    exact wp_skip (hQ a w hst)
  | region id ops draw =>
    intro s s' e h a w Q hst hQ
    simp only [aexec] at h
    split at h
    · rename_i hd
      subst hd
      split at h
      · rename_i s1 fps had
        split at h
        · rename_i hk
          simp only [Option.some.injEq, Prod.mk.injEq] at h
          obtain ⟨rfl, rfl⟩ := h
          exact region_draw hm hcall hg had hk hst hQ
        · cases h
      · cases h
    · rename_i hd
      have hd' : draw = false := by simpa using hd
      subst hd'
      split at h
      · rename_i s1 hao
        simp only [Option.some.injEq, Prod.mk.injEq] at h
        obtain ⟨rfl, rfl⟩ := h
        refine wp_region ?_
        have := aops_sound hcall hg (Q := Q) hQ ops.toList 0 s a w (fun k o h => by rw [Nat.zero_add]; rw [Array.getElem?_toList] at h; exact h) hao hst
        simpa using this
      · cases h
  | seq x y ihx ihy =>
    intro s s' e h a w Q hst hQ
    simp only [aexec] at h
    split at h
    · rename_i s1 hx
      exact wp_seq (ihx s s1 .normal hx a w _ hst (fun a' w' hst' => ihy s1 s' e h a' w' Q hst' hQ))
    · rename_i hne
      refine wp_seq (ihx s s' e h a w _ hst (fun a' w' hst' => ?_))
      have := hQ a' w' hst'
      cases e with
      | normal => exact absurd h (hne s')
      | exit i => exact this
      | ret => exact this
  | cond c x y ihx ihy =>
    intro s s' e h a w Q hst hQ
    simp only [aexec] at h
    have hst' := hst
    obtain ⟨_, G, ρ, hp, I, T⟩ := hst'
    have hrel := rel_see I c
    split at h
    · rename_i hc
      rw [hc] at hrel
      exact wp_cond_true (relA_bool hrel) (ihx s s' e h a w Q hst hQ)
    · rename_i hc
      rw [hc] at hrel
      exact wp_cond_false (relA_bool hrel) (ihy s s' e h a w Q hst hQ)
    · cases h
  | block id c ih =>
    intro s s' e h a w Q hst hQ
    simp only [aexec] at h
    split at h
    · rename_i i s1 hx
      refine wp_block (ih s s1 (.exit i) hx a w _ hst (fun a' w' hst' => ?_))
      show if i = id then Q .normal a' w' else Q (.exit i) a' w'
      split at h
      · rename_i hi
        simp only [Option.some.injEq, Prod.mk.injEq] at h
        obtain ⟨rfl, rfl⟩ := h
        rw [if_pos hi]
        exact hQ a' w' hst'
      · rename_i hi
        simp only [Option.some.injEq, Prod.mk.injEq] at h
        obtain ⟨rfl, rfl⟩ := h
        rw [if_neg hi]
        exact hQ a' w' hst'
    · rename_i hne
      refine wp_block (ih s s' e h a w _ hst (fun a' w' hst' => ?_))
      have := hQ a' w' hst'
      cases e with
      | normal => exact this
      | exit i => exact absurd h (hne i s')
      | ret => exact this
  | loop c ih =>
    intro s s' e h a w Q hst hQ
    simp only [aexec] at h
    have hlen := st_len hst
    generalize hcl : cleanS ((C.pol.live f (firstRegion c)).map fun x => (x.1, x.2.2)) s.h.length = clean at h
    generalize hcx : cleanS ((C.pol.live f (firstRegion c)).map fun x => (x.2.1, x.2.2)) s.h.length = cleanX at h
    have hclean : ∀ {s : AS} {a : Act} {w : World}, St C w0 G0 ρ0 S0 s a w → St C w0 G0 ρ0 S0 (clean s) a w := fun h => by rw [← hcl]; exact st_clean hg h _ hlen
    have hcleanX : ∀ {s : AS} {a : Act} {w : World}, St C w0 G0 ρ0 S0 s a w → St C w0 G0 ρ0 S0 (cleanX s) a w := fun h => by rw [← hcx]; exact st_clean hg h _ hlen
    suffices H : ∀ (m : Nat) (s : AS) (a : Act) (w : World), aiter (aexec C call f n c) clean cleanX m s = some (e, s') → St C w0 G0 ρ0 S0 s a w → Code.rounds C.P c Q m a w from
      wp_loop_rounds n (H n s a w h hst)
    intro m
    induction m with
    | zero => intro s a w h; simp [aiter] at h
    | succ m ihm =>
      intro s a w h hst
      rw [rounds_succ]
      simp only [aiter] at h
      split at h
      · rename_i s1 hx
        exact ih _ s1 .normal hx a w _ (hclean hst) (fun a' w' hst' => ihm s1 a' w' h hst')
      · rename_i i s1 hx
        simp only [Option.some.injEq, Prod.mk.injEq] at h
        obtain ⟨rfl, rfl⟩ := h
        exact ih _ s1 _ hx a w _ (hclean hst) (fun a' w' hst' => hQ a' w' (hcleanX hst'))
      · rename_i s1 hx
        simp only [Option.some.injEq, Prod.mk.injEq] at h
        obtain ⟨rfl, rfl⟩ := h
        exact ih _ s1 _ hx a w _ (hclean hst) (fun a' w' hst' => hQ a' w' (hcleanX hst'))
      · cases h
  | scope c ih =>
    intro s s' e h a w Q hst hQ
    simp only [aexec] at h
    refine wp_scope_straight (ih s s' e h a w _ hst (fun a' w' hst' => ?_))
    have := hQ a' w' hst'
    cases e <;> exact this
  | label l =>
    intro s s' e h a w Q hst hQ
    simp only [aexec, Option.some.injEq, Prod.mk.injEq] at h
    obtain ⟨rfl, rfl⟩ := h
    exact wp_label (hQ a w hst)
  | exit id =>
    intro s s' e h a w Q hst hQ
    simp only [aexec, Option.some.injEq, Prod.mk.injEq] at h
    obtain ⟨rfl, rfl⟩ := h
    exact wp_exit (hQ a w hst)
  | ret =>
    intro s s' e h a w Q hst hQ
    simp only [aexec, Option.some.injEq, Prod.mk.injEq] at h
    obtain ⟨rfl, rfl⟩ := h
    exact wp_ret (hQ a w hst)
  | _ =>
    intro s s' e h
    simp [aexec] at h

end
end Go.AM
