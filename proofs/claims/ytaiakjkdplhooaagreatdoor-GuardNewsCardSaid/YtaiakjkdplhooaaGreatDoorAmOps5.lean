/- Stores into variables. -/
import Derived.Test.YtaiakjkdplhooaaGreatDoorAmOps4
import Derived.Laws.CopyRow
namespace Go.AM
open Go

section
variable {C : Ctx} {w w' : World} {G G' : Nat → Nat} {ρ : List Nat} {t : List AV} {vs : List Value} {h : H}

theorem setRow_size (w : World) (g : Nat) (cs : Array Value) : (w.setRow g cs).heap.size = w.heap.size := by simp [World.setRow]

theorem nodup_inj {l : List Nat} (hn : l.Nodup) {i j b : Nat} (hi : l[i]? = some b) (hj : l[j]? = some b) : i = j := by
  have h1 := getElem?_lt hi
  have h2 := getElem?_lt hj
  have e1 := (List.getElem?_eq_some_iff.1 hi).2
  have e2 := (List.getElem?_eq_some_iff.1 hj).2
  have hp := List.pairwise_iff_getElem.1 hn
  rcases Nat.lt_trichotomy i j with hlt | rfl | hlt
  · exact absurd (e1.trans e2.symm) (hp i j h1 h2 hlt)
  · rfl
  · exact absurd (e2.trans e1.symm) (hp j i h2 h1 hlt)

/-- The cells of one variable change. -/
theorem inv_store (I : Inv C w G ρ t vs h) {o b off : Nat} {cs xs : List AV} {us ws : List Value} {ty : TypeId} (hc : h[o]? = some cs) (hb : ρ[o]? = some b) (hh : w.heap[b]? = some (.cells us.toArray ty (0, 0)))
    (hu : RelC C w G ρ cs us) (hx : RelC C w G ρ xs ws) (hl : off + xs.length ≤ cs.length)
    (ho : Lents xs ∨ ∃ a v, xs = [a] ∧ ws = [v] ∧ ∀ g, ub a v = some g → g ∉ ρ ∧ ∀ x, ¬ OwnsAt w ρ t vs h x g) :
    Inv C (w.setRow b (spliceV us off ws).toArray) G ρ t vs (h.set o (splice cs off xs)) ∧
      (∀ x g, OwnsAt (w.setRow b (spliceV us off ws).toArray) ρ t vs (h.set o (splice cs off xs)) x g → OwnsAt w ρ t vs h x g ∨ ∃ a v, xs = [a] ∧ ws = [v] ∧ ub a v = some g) ∧
      Mono w G (w.setRow b (spliceV us off ws).toArray) G := by
  have hbm : b ∈ ρ := List.mem_of_getElem? hb
  have hold : ∀ k, k ≠ b → (w.setRow b (spliceV us off ws).toArray).heap[k]? = w.heap[k]? := fun k hk => setRow_other w b k _ hk
  have hnew : (w.setRow b (spliceV us off ws).toArray).heap[b]? = some (.cells (spliceV us off ws).toArray ty (0, 0)) := setRow_heap w b _ _ ty _ hh
  have m : Mono w G (w.setRow b (spliceV us off ws).toArray) G := by
    refine ⟨fun _ => Nat.le_refl _, fun k f v hf hv => ?_⟩
    have hk : k ≠ b := by intro e; subst e; rw [I.objG _ hbm] at hf; omega
    simp only [World.cell?, hold k hk]; exact hv
  have hst : ∀ x g, OwnsAt w ρ t vs h x g → Stays w G (w.setRow b (spliceV us off ws).toArray) G g := fun x g hg => ⟨hold g (fun e => I.sep x g hg (e ▸ hbm)), rfl⟩
  have hol : o < h.length := getElem?_lt hc
  have hsp : RelC C w G ρ (splice cs off xs) (spliceV us off ws) := relC_splice hu hx hl
  have hUb : ∀ (j : Nat) (a : AV) (v : Value), (splice cs off xs)[j]? = some a → (spliceV us off ws)[j]? = some v → ∀ g, ub a v = some g →
      (OwnsAt w ρ t vs h (.o o j) g ∧ ¬ (off ≤ j ∧ j < off + xs.length)) ∨ (∃ a v, xs = [a] ∧ ws = [v] ∧ ub a v = some g ∧ j = off) := by
    intro j a v ha hv g hg
    unfold splice at ha
    unfold spliceV at hv
    rw [splice_get _ _ _ _ hl] at ha
    rw [splice_get _ _ _ _ (by rw [← hu.1, ← hx.1]; exact hl), ← hx.1] at hv
    by_cases hj : off ≤ j ∧ j < off + xs.length
    · rw [if_pos hj] at ha hv
      rcases ho with ho | ⟨a', v', rfl, rfl, _⟩
      · rw [ub_lent (ho a (List.mem_of_getElem? ha))] at hg; cases hg
      · simp only [List.length_singleton] at hj
        have hj0 : j = off := by omega
        subst hj0
        simp at ha hv
        subst ha; subst hv
        exact .inr ⟨_, _, rfl, rfl, hg, rfl⟩
    · rw [if_neg hj] at ha hv
      exact .inl ⟨⟨cs, b, a, v, hc, ha, hb, by rw [cell_of_block hh]; exact hv, hg⟩, hj⟩
  have key : ∀ x g, OwnsAt (w.setRow b (spliceV us off ws).toArray) ρ t vs (h.set o (splice cs off xs)) x g →
      OwnsAt w ρ t vs h x g ∨ (x = .o o off ∧ ∃ a v, xs = [a] ∧ ws = [v] ∧ ub a v = some g) := by
    intro x g hxg
    cases x with
    | t i => exact .inl hxg
    | o p j =>
      obtain ⟨cs', b', a, v, h1, h2, h3, h4, h5⟩ := hxg
      rcases getElem?_set_or _ _ _ _ _ h1 with ⟨rfl, rfl⟩ | ⟨hne, h1⟩
      · rw [hb] at h3; cases h3
        rw [cell_of_block hnew] at h4
        rcases hUb j a v h2 h4 g h5 with ⟨h, _⟩ | ⟨a', v', e1, e2, e3, rfl⟩
        · exact .inl h
        · exact .inr ⟨rfl, a', v', e1, e2, e3⟩
      · have hbb : b' ≠ b := fun e => hne (nodup_inj I.nodup hb (e ▸ h3))
        refine .inl ⟨cs', b', a, v, h1, h2, h3, ?_, h5⟩
        simp only [World.cell?, hold b' hbb] at h4
        exact h4
  have hfresh : ∀ g, (∃ a v, xs = [a] ∧ ws = [v] ∧ ub a v = some g) → g ∉ ρ ∧ ∀ x, ¬ OwnsAt w ρ t vs h x g := by
    rintro g ⟨a, v, e1, e2, e3⟩
    rcases ho with ho | ⟨a', v', e1', e2', e3'⟩
    · rw [ub_lent (ho a (by rw [e1]; simp))] at e3; cases e3
    · rw [e1] at e1'; rw [e2] at e2'
      simp only [List.cons.injEq, and_true] at e1' e2'
      subst e1'; subst e2'
      exact e3' g e3
  have hrel : ∀ (a : AV) (v : Value), (∀ g, ub a v = some g → Stays w G (w.setRow b (spliceV us off ws).toArray) G g) → RelA C w G ρ a v → RelA C (w.setRow b (spliceV us off ws).toArray) G ρ a v :=
    fun a v hs hr => RelA_mono m (List.prefix_refl _) a v hs hr
  refine ⟨{ hlen := by simp [I.hlen], obj := ?_, objG := I.objG, nodup := I.nodup, out := fun k hk => I.out k (by rwa [setRow_size] at hk), glob := ?_, len := I.len, rel := ?_, uniq := ?_, sep := ?_ },
    fun x g hx => (key x g hx).imp id And.right, m⟩
  · intro p cs' b' hc' hb'
    rcases getElem?_set_or _ _ _ _ _ hc' with ⟨rfl, rfl⟩ | ⟨hne, hc'⟩
    · rw [hb] at hb'; cases hb'
      refine ⟨spliceV us off ws, ty, hnew, hsp.1, fun j a v ha hv => ⟨hrel a v (fun g hg => ?_) (hsp.2 j a v ha hv).1, (hsp.2 j a v ha hv).2⟩⟩
      rcases hUb j a v ha hv g hg with ⟨h, _⟩ | ⟨a', v', e1, e2, e3, _⟩
      · exact hst _ g h
      · exact ⟨hold g (fun e => (hfresh g ⟨a', v', e1, e2, e3⟩).1 (e ▸ hbm)), rfl⟩
    · have hbb : b' ≠ b := fun e => hne (nodup_inj I.nodup hb (e ▸ hb'))
      obtain ⟨us', ty', h1, h2, h3⟩ := I.obj p cs' b' hc' hb'
      refine ⟨us', ty', by rw [hold b' hbb]; exact h1, h2, fun j a v ha hv => ⟨hrel a v (fun g hg => ?_) (h3 j a v ha hv).1, (h3 j a v ha hv).2⟩⟩
      exact hst (.o p j) g ⟨cs', b', a, v, hc', ha, hb', by rw [cell_of_block h1]; exact hv, hg⟩
  · intro g
    obtain ⟨h1, h2⟩ := I.glob g
    exact ⟨h1, hrel _ _ (fun g hg => by rw [ub_lent h1] at hg; cases hg) h2⟩
  · intro i a v ha hv
    exact hrel a v (fun g hg => hst (.t i) g ⟨a, v, ha, hv, hg⟩) (I.rel i a v ha hv)
  · intro x y g hx hy
    rcases key x g hx with kx | ⟨ex, kx⟩
    · rcases key y g hy with ky | ⟨ey, ky⟩
      · exact I.uniq x y g kx ky
      · exact absurd kx ((hfresh g ky).2 x)
    · rcases key y g hy with ky | ⟨ey, ky⟩
      · exact absurd ky ((hfresh g kx).2 y)
      · rw [ex, ey]
  · intro x g hx
    rcases key x g hx with hx | ⟨_, hx⟩
    · exact I.sep x g hx
    · exact (hfresh g hx).1

theorem run_storeVar {ty' : TypeId} {i : TI} (hi : C.ti ty' = some i) {b off : Nat} {us ws : List Value} {ty : TypeId} {v : Value} (hh : w.heap[b]? = some (.cells us.toArray ty (0, 0)))
    (hv : v.cells.toList = ws) (hs : ws.length = i.size) (hl : off + ws.length ≤ us.length) (h1 : ∀ c ∈ ws, c.oneCell' = true) :
    (storeVar ty' ⟨b, off, none⟩ v).run C.P w = .ok () (w.setRow b (spliceV us off ws).toArray) := by
  have hsz : v.cells.size = i.size := by rw [← Array.length_toList, hv, hs]
  simp only [storeVar, Sem.run_bind, ti_size hi, Result.andThen_ok, hsz, ne_eq, not_true, if_false, hv]
  have := run_storeCells_at (P := C.P) b off ty ws 0 us.toArray w hh (by simpa using hl) h1
  simpa [spliceV] using this

/-- A store. -/
theorem opPost_store (I : Inv C w G ρ t vs h) (src : Option Tmp) {ty' : TypeId} {x a : AV} {vx v : Value} {h' : H} (hx : RelA C w G ρ x vx) (ha : RelA C w G ρ a v)
    (hown : ∀ g, ub a v = some g → OwnsAt w ρ t vs h (.t (src.getD 0)) g ∧ src.isSome = true) (hst : astore C h ty' x a = some h') :
    ∃ w', (Instr.storeAt ty' vx v).run C.P w = .ok () w' ∧ OpPost C w G ρ t vs h (.tup []) h' (downT t src) undef w' := by
  unfold astore at hst
  split at hst
  · rename_i i o off xs hi hxs
    split at hst
    · rename_i cs hcs
      split at hst
      · rename_i hl
        simp only [Option.some.injEq] at hst
        subst hst
        obtain ⟨I1, k1⟩ := inv_down I src
        simp only [RelA] at hx
        obtain ⟨b, hb, rfl⟩ := hx
        obtain ⟨us, ty, hh, hlen, hr⟩ := I.obj o cs b hcs hb
        obtain ⟨hxl, hxr⟩ := relA_cells ha hxs
        have hX : RelC C w G ρ xs v.cells.toList := ⟨by rw [hxl, Array.length_toList], hxr⟩
        have hO : Lents xs ∨ (xs = [a] ∧ v.cells.toList = [v] ∧ ∀ g, ub a v = some g → g ∉ ρ ∧ ∀ x, ¬ OwnsAt w ρ (downT t src) vs h x g) := by
          cases hal : a.lent with
          | true => exact .inl (cells_lents ha hal hxs)
          | false =>
            cases a with
            | own tt l =>
              cases tt with
              | none => cases hal
              | some tt =>
                simp only [AV.cells?, Option.some.injEq] at hxs
                have h1 : v.oneCell' = true := by
                  simp only [RelA] at ha
                  rcases ha with ⟨_, _, _, _, _, h4, _⟩ | ⟨_, a0, rfl⟩
                  · rcases h4.2 with ⟨rfl, _⟩ | ⟨_, _, _, rfl, _⟩ <;> rfl
                  · rfl
                refine .inr ⟨hxs.symm, by rw [one_cells h1], fun g hg => ?_⟩
                obtain ⟨hg1, hg2⟩ := hown g hg
                refine ⟨I.sep _ _ hg1, fun y hy => ?_⟩
                obtain ⟨y1, y2⟩ := k1 y g hy
                obtain ⟨s, rfl⟩ := Option.isSome_iff_exists.1 hg2
                exact y2 s rfl (I.uniq y _ g y1 hg1)
            | _ => cases hal
        obtain ⟨I2, k2, m⟩ := inv_store I1 hcs hb hh ⟨hlen, hr⟩ hX hl.2 (hO.imp id fun ⟨e1, e2, e3⟩ => ⟨a, v, e1, e2, e3⟩)
        have hrun := run_storeVar hi hh rfl (by rw [← hX.1]; exact hl.1) (by rw [← hX.1, ← hlen]; exact hl.2) (relC_one hX)
        refine ⟨_, ?_, G, ρ, List.prefix_refl _, I2, by simp only [RelA]; exact ⟨[], rfl, by simp [RelAs]⟩, fun g hg => by simp [ub] at hg, ?_⟩
        · simp only [Instr.storeAt, Instr.sureAddr, Sem.run_bind, Sem.run_pure, Result.andThen_ok, hrun]
        · have hbm : b ∈ ρ := List.mem_of_getElem? hb
          refine { toMono := m, size := by rw [setRow_size]; exact Nat.le_refl _, os := rfl, tape := rfl, output := rfl, keep := fun k hk hS => ⟨setRow_other w b k _ (fun e => hS (.inl (e ▸ hbm))), rfl⟩, sub := fun k hk => ?_ }
          rcases hk with hk | ⟨y, hy⟩
          · exact .inl (.inl hk)
          · rcases k2 y k hy with hy | ⟨a', v', e1, e2, e3⟩
            · exact .inl (touch_down I src k (.inr ⟨y, hy⟩))
            · rcases hO with hO | ⟨e1', e2', _⟩
              · rw [ub_lent (hO a' (by rw [e1]; simp))] at e3; cases e3
              · rw [e1] at e1'
                rw [e2] at e2'
                simp only [List.cons.injEq, and_true] at e1' e2'
                subst e1'; subst e2'
                exact .inl (.inr ⟨_, (hown k e3).1⟩)
      · cases hst
    · cases hst
  · cases hst

end
end Go.AM
