/- Slices that are written out, extended, turned. -/
import Derived.Test.YtaiakjkdplhooaaGreatDoorAmOps6
namespace Go.AM
open Go

section
variable {C : Ctx} {w w' : World} {G G' : Nat → Nat} {ρ : List Nat} {t : List AV} {vs : List Value} {h : H}

theorem run_newRow (e : TypeId) (cs : Array Value) (w : World) {P : Program} : (newRow e cs).run P w = .ok ⟨w.heap.size, 0, none⟩ (w.alloc (.cells cs e)) := by
  simp [newRow, World.alloc_eq]

theorem opPost_buildSlice (I : Inv C w G ρ t vs h) {ty : TypeId} {n : Nat} {ps : List (Nat × AV)} {qs : Array (Nat × Value)} {r : AV} (hlen : ps.length = qs.toList.length)
    (hrel : ∀ (j : Nat) (p : Nat × AV) (q : Nat × Value), ps[j]? = some p → qs.toList[j]? = some q → p.1 = q.1 ∧ RelA C w G ρ p.2 q.2)
    (hb : abuildSlice C ty n ps = some r) : ∃ v w', (Instr.buildSlice ty n qs).run C.P w = .ok v w' ∧ OpPost C w G ρ t vs h r h t v w' := by
  unfold abuildSlice at hb
  split at hb
  · rename_i e hk
    split at hb
    · rename_i i hi
      split at hb
      · rename_i l hl
        split at hb
        · rename_i hc
          simp only [Option.some.injEq] at hb
          subst hb
          obtain ⟨hln, hbig, hpos⟩ := hc
          have hu := kOf_slice (tk_kOf hk)
          obtain ⟨z, hz, hzr, hzl, hzs, _⟩ := zero_rel (C := C) (w := w) (G := G) (ρ := ρ) hi
          have hpl : ps.length = n := by
            have : ∀ (ps : List (Nat × AV)) (j : Nat) (l : List PV), elems i.size j ps = some l → l.length = ps.length := by
              intro ps
              induction ps with
              | nil => intro j l h; simp only [elems, Option.some.injEq] at h; subst h; rfl
              | cons p ps ih =>
                intro j l h
                rw [elems] at h
                split at h
                · rename_i q l' _ hl'
                  split at h
                  · simp only [Option.some.injEq] at h; subst h; simp [ih _ _ hl']
                  · cases h
                · cases h
            rw [← hln, this ps 0 l hl]
          obtain ⟨us, out, ho, hr, hks, hout⟩ := elems_fill (C := C) (w := w) (G := G) (ρ := ρ) ps qs.toList 0 l ((Array.range (n * i.size)).map (z.cells[· % z.cells.size]!)) hlen hrel hl (by simp [hpl])
          have hout' : out = (flat us).toArray := by
            apply Array.ext'
            rw [hout]
            simp [hpl]
          have hP := opPost_row I hi hr hks (by
            rw [hln]; simp only [maxLen]
            have : n * 1 ≤ n * i.size := Nat.mul_le_mul_left _ hpos
            omega)
          refine ⟨_, _, ?_, hP⟩
          have hnb : ¬ (n * i.size > 2 ^ 24) := by omega
          have hz' : ((if n * i.size = 0 then pure #[] else do pure (← zeroValue e).cells : Sem (Array Value))).run C.P w = .ok (if n * i.size = 0 then #[] else z.cells) w := by
            split
            · rfl
            · simp [hz]
          rcases Nat.eq_zero_or_pos n with h0 | h0
          · subst h0
            have hps : ps = [] := List.eq_nil_of_length_eq_zero hpl
            subst hps
            have hqs : qs.toList = [] := List.eq_nil_of_length_eq_zero (by rw [← hlen]; rfl)
            have hus : us = [] := by
              have := RelPs_length hr
              exact List.eq_nil_of_length_eq_zero (by omega)
            subst hus
            simp [Instr.buildSlice, run_underlying hu, ti_size hi, hqs, Instr.fill, run_newRow, hln, flat]
            congr 2
            exact Array.eq_empty_of_size_eq_zero (by simp)
          · have hnz : ¬ n * i.size = 0 := Nat.ne_of_gt (Nat.mul_pos h0 hpos)
            simp only [Instr.buildSlice, Sem.run_bind, run_underlying hu, Result.andThen_ok, ti_size hi, hnb, if_false, hnz, hz, Sem.run_pure, ho, run_newRow, hout', hln]
        · cases hb
      · cases hb
    · cases hb
  · cases hb

/-- A slice that is owned goes out of a temporary and is extended. -/
theorem opPost_append (I : Inv C w G ρ t vs h) (src : Option Tmp) {ts : Array TypeId} {ty : TypeId} {x y r : AV} {vx vy : Value} (hx : RelA C w G ρ x vx) (hy : RelA C w G ρ y vy)
    (hown : ∀ g, ub x vx = some g → OwnsAt w ρ t vs h (.t (src.getD 0)) g ∧ src.isSome = true) (ha : aappend C ts x y = some r) (hts : ts.size = 2) :
    ∃ v w', (Builtin.append_ ts ty #[vx, vy]).run C.P w = .ok v w' ∧ OpPost C w G ρ t vs h r h (downT t src) v w' := by
  unfold aappend at ha
  split at ha
  · rename_i t1 t2 e' l h1 h2
    split at ha
    · rename_i e uk hk1 hk2
      split at ha
      · rename_i ei hei
        split at ha
        · rename_i hc
          obtain ⟨hpos, hbpos, he⟩ := hc
          split at ha
          · rename_i e2 m
            split at ha
            · rename_i hcond
              simp only [Option.some.injEq] at ha
              subst ha
              obtain ⟨rfl, hfit, hbig⟩ := hcond
              have hts2 : ts = #[t1, t1] := by
                apply Array.ext (by simp [hts])
                intro j hj1 hj2
                have e0 := (Array.getElem?_eq_some_iff.1 h1).2
                have e1 := (Array.getElem?_eq_some_iff.1 h2).2
                match j, hj2 with
                | 0, _ => simpa using e0
                | 1, _ => simpa using e1
              subst hts2
              have hu := kOf_slice (tk_kOf hk1)
              obtain ⟨ix, z, hi1, hi2, hi3, hi4, hi5, _, _, _⟩ := ti_info hei
              obtain ⟨z', hz', _, _, hzs, _⟩ := zero_rel (C := C) (w := w) (G := G) (ρ := ρ) hei
              have hzz : z' = z := by
                simp [zeroValue, run_typeInfo w hi1, hi4] at hz'; exact hz'.symm
              subst hzz
              obtain ⟨I1, k1⟩ := inv_down I src
              have hT := touch_down I src
              simp only [RelA, RelP] at hy
              obtain ⟨A, c, rfl, _, hy⟩ := hy
              -- what the owned slice is
              have hO : ∃ us, RelPs w G l us ∧ (∀ u ∈ us, u.cells.size = ei.size) ∧ ((w.ownsRow 0 e ei.size vx l.length (flat us) ∧ ∀ g, vx.ownBlock = some g → G g = (flat us).length ∧ OwnsAt w ρ t vs h (.t (src.getD 0)) g ∧ src.isSome = true) ∨
                  (l = [] ∧ ∃ a0, vx = .slice (some a0) 0 0)) := by
                rcases he with ⟨rfl, rfl⟩ | rfl
                · simp only [RelA] at hx
                  obtain ⟨_, rfl⟩ := hx
                  exact ⟨[], by simp [RelPs], by simp, .inl ⟨World.ownsRow_nil _ _ _ _, fun g hg => by simp [Value.ownBlock] at hg⟩⟩
                · simp only [RelA] at hx
                  rcases hx with ⟨i', us, hi', q1, q2, q3, q4⟩ | ⟨rfl, a0, rfl⟩
                  · rw [hei] at hi'
                    cases hi'
                    by_cases hz : l = [] ∧ ∃ a0, vx = .slice (some a0) 0 0
                    · exact ⟨us, q1, q2, .inr hz⟩
                    · refine ⟨us, q1, q2, .inl ⟨q3, fun g hg => ⟨q4 g hg, hown g ?_⟩⟩⟩
                      simp only [ub]
                      rcases q3.2 with ⟨rfl, _⟩ | ⟨g', cap, cur, rfl, _, _, hnc, _⟩
                      · simp [Value.ownBlock] at hg
                      · rcases Nat.eq_zero_or_pos cap with h0 | h0
                        · subst h0
                          have hl0 : l = [] := List.eq_nil_of_length_eq_zero (by omega)
                          subst hl0
                          exact absurd ⟨rfl, _, rfl⟩ hz
                        · simp only [capBlock, if_neg (Nat.ne_of_gt h0)]; exact hg
                  · exact ⟨[], by simp [RelPs], by simp, .inr ⟨rfl, a0, rfl⟩⟩
              obtain ⟨us, hr1, hk1', hrowS⟩ := hO
              have hlu := RelPs_length hr1
              have hfu := flat_length hk1'
              have hlm : l.length + m.length ≤ 2 ^ 46 := Nat.le_trans (Nat.le_mul_of_pos_right _ hbpos) hbig
              -- what is appended
              have hM : ∃ um, RelPs w G m um ∧ (∀ u ∈ um, u.cells.size = ei.size) ∧ (m = [] ∨ ∃ a : Addr, A = some a ∧ ∀ j u, (flat um)[j]? = some u → w.cell? (a.add j) = some u) := by
                rcases hy with rfl | ⟨b, off, k, um, rfl, q1, q2, q3, q4⟩
                · exact ⟨[], by simp [RelPs], by simp, .inl rfl⟩
                · cases m with
                  | nil => exact ⟨[], by simp [RelPs], by simp, .inl rfl⟩
                  | cons p m =>
                    have hks : k = ei.size := by
                      simp only [RelPs] at q1
                      obtain ⟨v, q, rfl, hp, _⟩ := q1
                      have h3 := RelPs_length (RelP_cells hp).1
                      rw [Array.length_toList] at h3
                      have h4 := q2 v (by simp)
                      have h5 : p.cells.length = ei.size := by simpa [fits] using hfit
                      exact h4.symm.trans (h3.symm.trans h5)
                    subst hks
                    exact ⟨um, q1, q2, .inr ⟨_, rfl, fun j u hj => by rw [add_at]; exact q3 j u hj⟩⟩
              obtain ⟨um, hr2, hk2', hcell⟩ := hM
              have hlum := RelPs_length hr2
              have hfm := flat_length hk2'
              have hr12 : RelPs w G (l ++ m) (us ++ um) := RelPs_append hr1 hr2
              have hk12 : ∀ u ∈ us ++ um, u.cells.size = ei.size := fun u hu => (List.mem_append.1 hu).elim (hk1' u) (hk2' u)
              have hflat : flat (us ++ um) = flat us ++ flat um := flat_append _ _
              have hmx : (2 : Nat) ^ 46 ≤ maxLen := by simp only [maxLen]; omega
              -- nothing is appended
              have same : m = [] → (Builtin.append_ #[t1, t1] ty #[vx, .slice A m.length c]).run C.P w = .ok vx w →
                  ∃ v w', (Builtin.append_ #[t1, t1] ty #[vx, .slice A m.length c]).run C.P w = .ok v w' ∧ OpPost C w G ρ t vs h (.own (some e) (l ++ m)) h (downT t src) v w' := by
                intro hm hrun
                subst hm
                refine ⟨vx, w, hrun, G, ρ, List.prefix_refl _, I1, ?_, fun g hg => ?_, Tr.refl hT⟩
                · rw [List.append_nil]
                  simp only [RelA]
                  rcases hrowS with ⟨hrow, hblk⟩ | hz
                  · exact .inl ⟨ei, us, hei, hr1, hk1', hrow, fun g hg => (hblk g hg).1⟩
                  · exact .inr hz
                · simp only [ub] at hg
                  have hgc := hg
                  have hg := capBlock_own hg
                  rcases hrowS with ⟨hrow, hblk⟩ | ⟨_, a0, rfl⟩
                  · obtain ⟨_, ho, hs⟩ := hblk g hg
                    obtain ⟨s, rfl⟩ := Option.isSome_iff_exists.1 hs
                    exact ⟨I.sep _ _ ho, fun x hx => (k1 x g hx).2 s rfl (I.uniq x _ g (k1 x g hx).1 ho), .inl (.inr ⟨_, ho⟩)⟩
                  · simp [capBlock] at hgc
              -- a new row
              have fresh : ∀ (old : Nat), old < l.length + m.length →
                  OpPost C w G ρ t vs h (.own (some e) (l ++ m)) h (downT t src) (.slice (some ⟨w.heap.size, 0, none⟩) (l.length + m.length) (grownCap w (l.length + m.length) old e))
                    (w.drew.alloc (.cells ((flat us).toArray ++ (flat um).toArray ++ Builtin.zeroCells z'.cells (grownCap w (l.length + m.length) old e - (l.length + m.length))) e)) := by
                intro old hold
                have hge := grownCap_ge w (l.length + m.length) old e
                have hcm := grownCap_le_maxLen w (l.length + m.length) old e (by omega)
                have hszz : z'.cells.size = ei.size := hzs
                have hP := opPost_row' (w := w.drew) (t := downT t src) (cur := (flat us).toArray ++ (flat um).toArray ++ Builtin.zeroCells z'.cells (grownCap w (l.length + m.length) old e - (l.length + m.length)))
                  (cap := grownCap w (l.length + m.length) old e) I1.drew.1 hei (l := l ++ m) (us := us ++ um) (RelPs_mono (w := w) (w' := w.drew) ⟨fun _ => Nat.le_refl _, fun _ _ _ _ h => h⟩ _ _ hr12) hk12 (by rw [List.length_append]; exact hge) hcm
                  (by
                    simp only [Array.size_append, List.size_toArray, size_zeroCells, hszz, hfu, hfm, ← hlu, ← hlum, ← Nat.add_mul]
                    congr 1; omega)
                  (by
                    rw [hflat]
                    simp only [Array.toList_append, List.append_assoc, List.length_append]
                    rw [← List.append_assoc, List.take_append_of_le_length (by simp only [List.length_append, hfu, hfm, ← hlu, ← hlum, ← Nat.add_mul]; exact Nat.le_refl _), List.take_of_length_le]
                    simp only [List.length_append, hfu, hfm, ← hlu, ← hlum, ← Nat.add_mul]; exact Nat.le_refl _)
                rw [List.length_append] at hP
                obtain ⟨G', ρ', h1, h2, h3, h4, h5⟩ := opPost_drew hP
                exact ⟨G', ρ', h1, h2, h3, fun g hg => ⟨(h4 g hg).1, (h4 g hg).2.1, (h4 g hg).2.2.imp (hT g) id⟩, h5.weaken hT (fun _ h => h)⟩
              rcases hrowS with ⟨hrow, hblk⟩ | ⟨hl0, a0, rfl⟩
              case inr =>
                subst hl0
                have hus : us = [] := List.eq_nil_of_length_eq_zero (by rw [← hlu]; rfl)
                subst hus
                rcases Nat.eq_zero_or_pos m.length with hm0 | hm0
                · have hm : m = [] := List.eq_nil_of_length_eq_zero hm0
                  refine same hm ?_
                  subst hm
                  cases A <;> simp [Builtin.append_, run_underlying hu, Go.sizeOf, typeInfo, hi1, Builtin.lenOf, Builtin.firstCells, loadCells, loadCellsFrom, storeCells]
                · rcases hcell with hm | ⟨a, rfl, hcell⟩
                  · subst hm; simp at hm0
                  · have hr := run_append_grow (P := C.P) w t1 ty e ix z' hu hi1 hi4 a0 0 0 [] (by simp) (fun j u hj => by simp at hj) a m.length c (flat um) (by rw [hfm, hlum, hi2]) hcell (by omega) (by omega)
                      (growslice_fits (by omega) (by rw [hi3]; simp only [List.length_nil] at hbig; omega))
                    have hf := fresh 0 (by simp only [List.length_nil]; omega)
                    simp only [List.length_nil] at hf
                    exact ⟨_, _, hr, hf⟩
              rcases hrow.2 with ⟨rfl, hn0⟩ | ⟨g, cap, cur, rfl, _, hg, hnc, hcm, hcs, htake⟩
              · have hl0 : l = [] := List.eq_nil_of_length_eq_zero hn0
                rcases hcell with hm | ⟨a, rfl, hcell⟩
                · refine same hm ?_
                  subst hm; subst hl0
                  simp [Builtin.append_, run_underlying hu, Go.sizeOf, typeInfo, hi1, Builtin.lenOf]
                  cases A <;> simp [Builtin.firstCells, loadCells, loadCellsFrom]
                · rcases Nat.eq_zero_or_pos m.length with hm0 | hm0
                  · have hm : m = [] := List.eq_nil_of_length_eq_zero hm0
                    refine same hm ?_
                    subst hm; subst hl0
                    simp [Builtin.append_, run_underlying hu, Go.sizeOf, typeInfo, hi1, Builtin.lenOf, Builtin.firstCells, loadCells, loadCellsFrom]
                  · have hus : us = [] := List.eq_nil_of_length_eq_zero (by rw [← hlu, hn0])
                    have hr := run_append_nil (P := C.P) w t1 ty e ix z' hu hi1 hi4 a m.length c (flat um) (by rw [hfm, hlum, hi2]) hcell hm0 (by omega) (by rw [hi3]; rw [Nat.add_mul] at hbig; omega)
                    have hf := fresh 0 (by omega)
                    rw [hus] at hf
                    simp only [hn0, Nat.zero_add, flat, List.flatMap_nil, Array.empty_append] at hf
                    exact ⟨_, _, hr, hf⟩
              · have nil_case : m = [] → (Builtin.append_ #[t1, t1] ty #[.slice (some ⟨g, 0, none⟩) l.length cap, .slice A m.length c]).run C.P w = .ok (.slice (some ⟨g, 0, none⟩) l.length cap) w := by
                  intro hm
                  subst hm
                  cases A <;> simp [Builtin.append_, run_underlying hu, Go.sizeOf, typeInfo, hi1, Builtin.lenOf, hnc, Builtin.firstCells, loadCells, loadCellsFrom, storeCells]
                rcases hcell with hm | ⟨a, rfl, hcell⟩
                · exact same hm (nil_case hm)
                · rcases Nat.lt_or_ge cap (l.length + m.length) with hgrow | hroom
                  · have holds : ∀ j u, (flat us)[j]? = some u → w.cell? ((⟨g, 0, none⟩ : Addr).add j) = some u := hrow.cells (g := g) rfl
                    have hr := run_append_grow (P := C.P) w t1 ty e ix z' hu hi1 hi4 ⟨g, 0, none⟩ l.length cap (flat us) (by rw [hfu, hlu, hi2]) holds a m.length c (flat um) (by rw [hfm, hlum, hi2]) hcell hgrow (by omega)
                      (growslice_fits hgrow (by rw [hi3]; omega))
                    exact ⟨_, _, hr, fresh cap hgrow⟩
                  · obtain ⟨hGg, ho, hs⟩ := hblk g rfl
                    obtain ⟨s, rfl⟩ := Option.isSome_iff_exists.1 hs
                    have hnone : ∀ x, ¬ OwnsAt w ρ (downT t (some s)) vs h x g := fun x hx => (k1 x g hx).2 s rfl (I.uniq x _ g (k1 x g hx).1 ho)
                    have hgρ := I.sep _ _ ho
                    have hone := flat_one hr2
                    have hlen1 : l.length * ei.size = (flat us).length := by rw [hfu, hlu]
                    have hfit2 : l.length * ix.size + (flat um).length ≤ cur.size := by
                      rw [hi2, hfm, ← hlum, ← Nat.add_mul, hcs]; exact Nat.mul_le_mul_right _ hroom
                    have hr := run_append_room (P := C.P) w t1 ty e ix hu hi1 g l.length cap cur hg a m.length c (flat um) (by rw [hfm, hlum, hi2]) hcell hone hroom hfit2
                    rw [hi2] at hr hfit2
                    let new : List Value := cur.toList.take (l.length * ei.size) ++ flat um ++ cur.toList.drop (l.length * ei.size + (flat um).length)
                    have hnew : (w.setRow g new.toArray).heap[g]? = some (.cells new.toArray e (0, 0)) := setRow_heap w g _ _ e _ hg
                    have hold : ∀ k, k ≠ g → (w.setRow g new.toArray).heap[k]? = w.heap[k]? := fun k hk => setRow_other w g k _ hk
                    have hpre : new.take ((flat us).length + (flat um).length) = flat us ++ flat um := by
                      have e1 : cur.toList.take (l.length * ei.size) = flat us := htake
                      show (cur.toList.take (l.length * ei.size) ++ flat um ++ _).take _ = _
                      rw [e1, List.take_append_of_le_length (by simp), List.take_of_length_le (by simp)]
                    let G' : Nat → Nat := fun b => if b = g then (flat us).length + (flat um).length else G b
                    have hglt : g < w.heap.size := (Array.getElem?_eq_some_iff.1 hg).1
                    have mm : Mono w G (w.setRow g new.toArray) G' := by
                      refine ⟨fun b => ?_, fun b o v hob hv => ?_⟩
                      · by_cases hb : b = g
                        · subst hb; simp only [G', if_true]; omega
                        · simp only [G', if_neg hb]; exact Nat.le_refl _
                      · by_cases hb : b = g
                        · subst hb
                          rw [hGg] at hob
                          have e1 : w.cell? ⟨b, o, none⟩ = cur.toList[o]? := by simp [World.cell?, hg]
                          have e2 : (w.setRow b new.toArray).cell? ⟨b, o, none⟩ = new[o]? := cell_of_block hnew o
                          rw [e2, ← hv, e1]
                          have h3 : new[o]? = (flat us ++ flat um)[o]? := by
                            rw [← hpre, List.getElem?_take_of_lt (by omega)]
                          rw [h3, List.getElem?_append_left hob, ← htake, List.getElem?_take_of_lt (by rw [hlen1]; exact hob)]
                        · simp only [World.cell?, hold b hb]; exact hv
                    obtain ⟨I2, k2⟩ := I1.move (w' := w.setRow g new.toArray) (G' := G') mm (fun x b hx => ⟨hold b (fun eb => hnone x (eb ▸ hx)), by simp only [G']; rw [if_neg (fun (eb : b = g) => hnone x (eb ▸ hx))]⟩)
                      (fun b hb => hold b (fun eb => hgρ (eb ▸ hb))) (fun b hb => by simp only [G']; rw [if_neg (fun (eb : b = g) => hgρ (eb ▸ hb))]; exact I.objG b hb)
                      (fun b hb => by
                        rw [setRow_size] at hb
                        simp only [G']; rw [if_neg (by omega)]; exact I.out b hb)
                    refine ⟨_, _, hr, G', ρ, List.prefix_refl _, I2, ?_, fun b hb => ?_, ?_⟩
                    · simp only [RelA]
                      refine .inl ⟨ei, us ++ um, hei, RelPs_mono mm _ _ hr12, hk12, ⟨by rw [hflat, List.length_append, List.length_append, hfu, hfm, ← hlu, ← hlum, Nat.add_mul], .inr ⟨g, cap, new.toArray, by rw [List.length_append], Nat.zero_le _, hnew, by rw [List.length_append]; exact hroom, hcm, ?_, ?_⟩⟩, fun b hb => ?_⟩
                      · simp only [new, List.size_toArray, List.length_append, List.length_take, List.length_drop, Array.length_toList]
                        omega
                      · show new.take _ = _
                        rw [List.length_append, Nat.add_mul, hlen1, show m.length * ei.size = (flat um).length by rw [hfm, hlum], hpre, hflat]
                      · simp only [Value.ownBlock, Option.some.injEq] at hb
                        subst hb
                        simp [G', hflat]
                    · simp only [ub] at hb
                      have hb := capBlock_own hb
                      simp only [Value.ownBlock, Option.some.injEq] at hb
                      subst hb
                      exact ⟨hgρ, fun x hx => hnone x ((k2 x _).1 hx), .inl (.inr ⟨_, ho⟩)⟩
                    · refine { toMono := mm, size := by rw [setRow_size]; exact Nat.le_refl _, os := rfl, tape := rfl, output := rfl, keep := fun b _ hS => ?_, sub := fun b hb => .inl (hT b (hb.imp id fun ⟨x, hx⟩ => ⟨x, (k2 x b).1 hx⟩)) }
                      have hbg : b ≠ g := fun eb => hS (.inr ⟨_, eb ▸ ho⟩)
                      exact ⟨hold b hbg, by simp only [G']; rw [if_neg hbg]⟩
            · cases ha
          · cases ha
        · cases ha
      · cases ha
    · cases ha
  · cases ha

end
end Go.AM
