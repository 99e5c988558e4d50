/- The log of what was written is right. -/
import Derived.Test.YtaiakjkdplhooaaGreatDoorAmExec
namespace Go.AM
open Go

/-- So far into a call: what isn't listed is as it was. -/
def LogOk (N : Nat) (h0 : H) (s : AS) : Prop := N ≤ s.h.length ∧ ∀ (p : Nat), p < N → p ∉ s.wr → s.h[p]? = h0[p]?

section
variable {C : Ctx} {f : FuncId} {N : Nat} {h0 : H}

theorem log_step {s : AS} {W L : List Nat} {t : List AV} {h' : H} (hl : LogOk N h0 s) (hk : Keeps W s.h h') (hL : ∀ p, p ∉ L → p ∉ W ∧ p ∉ s.wr) : LogOk N h0 ⟨t, h', L⟩ :=
  ⟨Nat.le_trans hl.1 hk.1, fun p hp hn => (hk.2 p (Nat.lt_of_lt_of_le hp hl.1) (hL p hn).1).trans (hl.2 p hp (hL p hn).2)⟩

theorem log_aops {ops : Array Oper} {call : ACall} (hcall : CallOk C call) (hg : GlobOk C) : ∀ (l : List Oper) (s s' : AS), aops C call f ops l s = some s' → LogOk N h0 s → LogOk N h0 s'
  | [], s, s', h, hl => by simp only [aops, Option.some.injEq] at h; subst h; exact hl
  | o :: r, s, s', h, hl => by
    simp only [aops] at h
    split at h
    · rename_i hgd
      split at h
      · rename_i s1 hs
        obtain ⟨W, hW, hk, _⟩ := astep_res (ops := ops) hcall hg hgd hs
        refine log_aops hcall hg r s1 s' h ?_
        exact log_step (t := s1.t) (L := s1.wr) hl hk (fun p hp => by rw [hW] at hp; simpa using hp)
      · cases h
    · exact log_aops hcall hg r _ s' h (log_step hl (Keeps.refl [] _) (fun p hp => ⟨by simp, hp⟩))
    · cases h

theorem log_adops {ops : Array Oper} {call : ACall} (hcall : CallOk C call) (hg : GlobOk C) : ∀ (l : List Oper) (s s' : AS) (fps : List Fp), adops C call f ops l s = some (s', fps) → LogOk N h0 s → LogOk N h0 s'
  | [], s, s', fps, h, hl => by simp only [adops, Option.some.injEq, Prod.mk.injEq] at h; rw [← h.1]; exact hl
  | o :: r, s, s', fps, h, hl => by
    simp only [adops] at h
    split at h
    · rename_i hgd
      split at h
      · rename_i s1 hs
        split at h
        · rename_i s2 l2 hr
          simp only [Option.some.injEq, Prod.mk.injEq] at h
          obtain ⟨rfl, rfl⟩ := h
          obtain ⟨W, hW, hk, _⟩ := astep_res (ops := ops) (s := ⟨s.t, s.h, []⟩) hcall hg hgd hs
          refine log_adops hcall hg r _ _ _ hr ?_
          refine log_step (W := W) hl hk (fun p hp => ?_)
          rw [hW] at hp
          simpa using hp
        · cases h
      · cases h
    · split at h
      · rename_i s2 l2 hr
        simp only [Option.some.injEq, Prod.mk.injEq] at h
        obtain ⟨rfl, rfl⟩ := h
        exact log_adops hcall hg r _ _ _ hr (log_step hl (Keeps.refl [] _) (fun p hp => ⟨by simp, hp⟩))
      · cases h
    · cases h

theorem log_trunc {t t' : List AV} {h : H} {L : List Nat} {n : Nat} (hl : LogOk N h0 ⟨t, h, L⟩) (hn : N ≤ n) : LogOk N h0 ⟨t', trunc n t' h, L⟩ := by
  unfold trunc
  split
  · have h1 : N ≤ h.length := hl.1
    refine ⟨by show N ≤ (h.take n).length; rw [List.length_take]; omega, fun p hp hnp => ?_⟩
    show (h.take n)[p]? = _
    rw [List.getElem?_take, if_pos (by omega)]
    exact hl.2 p hp hnp
  · exact hl

theorem log_clean {s : AS} (hl : LogOk N h0 s) (live : Option (List Tmp × List Nat)) {n : Nat} (hn : N ≤ n) : LogOk N h0 (cleanS live n s) := by
  cases live with
  | none => exact hl
  | some lW =>
    obtain ⟨l, W⟩ := lW
    have h1 : LogOk N h0 ⟨keepOnly l 0 s.t, trunc n (keepOnly l 0 s.t) s.h, s.wr⟩ := log_trunc (t := s.t) hl hn
    unfold cleanS
    refine ⟨h1.1, fun p hp hn => h1.2 p hp (fun hm => hn ?_)⟩
    show p ∈ if s.wr.all W.contains then W else s.wr
    split
    · rename_i hall
      simpa using List.all_eq_true.1 hall p hm
    · exact hm

theorem log_exec {call : ACall} (hcall : CallOk C call) (hg : GlobOk C) (n : Nat) : ∀ (c : Code) (s s' : AS) (e : AExit), aexec C call f n c s = some (e, s') → LogOk N h0 s → LogOk N h0 s' := by
  intro c
  induction c with
  | skip => intro s s' e h hl; simp only [aexec, Option.some.injEq, Prod.mk.injEq] at h; rw [← h.2]; exact hl
  | region id ops draw =>
    intro s s' e h hl
    simp only [aexec] at h
    split at h
    · split at h
      · rename_i s1 fps had
        split at h
        · simp only [Option.some.injEq, Prod.mk.injEq] at h
          rw [← h.2]; exact log_adops hcall hg _ _ _ _ had hl
        · cases h
      · cases h
    · split at h
      · rename_i s1 hao
        simp only [Option.some.injEq, Prod.mk.injEq] at h
        rw [← h.2]; exact log_aops hcall hg _ _ _ hao hl
      · cases h
  | seq x y ihx ihy =>
    intro s s' e h hl
    simp only [aexec] at h
    split at h
    · rename_i s1 hx
      exact ihy _ _ _ h (ihx _ _ _ hx hl)
    · exact ihx _ _ _ h hl
  | cond c x y ihx ihy =>
    intro s s' e h hl
    simp only [aexec] at h
    split at h
    · exact ihx _ _ _ h hl
    · exact ihy _ _ _ h hl
    · cases h
  | block id c ih =>
    intro s s' e h hl
    simp only [aexec] at h
    split at h
    · rename_i i s1 hx
      have := ih _ _ _ hx hl
      split at h <;> (simp only [Option.some.injEq, Prod.mk.injEq] at h; rw [← h.2]; exact this)
    · exact ih _ _ _ h hl
  | loop c ih =>
    intro s s' e h hl
    simp only [aexec] at h
    have hN := hl.1
    generalize hcl : cleanS ((C.pol.live f (firstRegion c)).map fun x => (x.1, x.2.2)) s.h.length = clean at h
    generalize hcx : cleanS ((C.pol.live f (firstRegion c)).map fun x => (x.2.1, x.2.2)) s.h.length = cleanX at h
    have hclean : ∀ {s : AS}, LogOk N h0 s → LogOk N h0 (clean s) := fun h => by rw [← hcl]; exact log_clean h _ hN
    have hcleanX : ∀ {s : AS}, LogOk N h0 s → LogOk N h0 (cleanX s) := fun h => by rw [← hcx]; exact log_clean h _ hN
    suffices H : ∀ (m : Nat) (s : AS), aiter (aexec C call f n c) clean cleanX m s = some (e, s') → LogOk N h0 s → LogOk N h0 s' from H n s h hl
    intro m
    induction m with
    | zero => intro s h; simp [aiter] at h
    | succ m ihm =>
      intro s h hl
      simp only [aiter] at h
      split at h
      · rename_i s1 hx
        exact ihm s1 h (ih _ _ _ hx (hclean hl))
      · rename_i i s1 hx
        simp only [Option.some.injEq, Prod.mk.injEq] at h
        rw [← h.2]; exact hcleanX (ih _ _ _ hx (hclean hl))
      · rename_i s1 hx
        simp only [Option.some.injEq, Prod.mk.injEq] at h
        rw [← h.2]; exact hcleanX (ih _ _ _ hx (hclean hl))
      · cases h
  | scope c ih => intro s s' e h hl; simp only [aexec] at h; exact ih _ _ _ h hl
  | label l => intro s s' e h hl; simp only [aexec, Option.some.injEq, Prod.mk.injEq] at h; rw [← h.2]; exact hl
  | exit id => intro s s' e h hl; simp only [aexec, Option.some.injEq, Prod.mk.injEq] at h; rw [← h.2]; exact hl
  | ret => intro s s' e h hl; simp only [aexec, Option.some.injEq, Prod.mk.injEq] at h; rw [← h.2]; exact hl
  | _ => intro s s' e h; simp [aexec] at h

end
end Go.AM
