/- '==' of structs and arrays, cell by cell. -/
import Derived.Test.YtaiakjkdplhooaaGreatDoorAmOps1
import Derived.Laws.StructEq
namespace Go.AM
open Go

def valOf (k : TK) (vs : List Value) : Value := if k.isAgg then .agg vs.toArray else vs.headD undef

theorem ti_one {P : Program} {t : TypeId} {i : TI} (h : tiOf P t = some i) (hk : i.k.isAgg = false) : i.size = 1 := by
  obtain ⟨x, z, _, _, _, _, hf, _, _, _⟩ := ti_info (C := ⟨P, ⟨fun _ => none, fun _ _ => false, fun _ _ => none⟩, fun _ => none, fun _ => .any⟩) h
  cases z <;> simp [zeroFits, hk] at hf <;> exact hf

theorem tiOf_info {P : Program} {t : TypeId} {i : TI} (h : tiOf P t = some i) : ∃ x, P.info? t = some x ∧ x.size = i.size ∧ i.k = kOf P t := by
  obtain ⟨x, z, h1, h2, _, _, _, _, h3, _⟩ := ti_info (C := ⟨P, ⟨fun _ => none, fun _ _ => false, fun _ _ => none⟩, fun _ => none, fun _ => .any⟩) h
  exact ⟨x, h1, h2, h3⟩

theorem underlying_some {P : Program} {t : TypeId} (hk : kOf P t ≠ .other) : ∃ d, P.underlying t = some d := by
  unfold kOf at hk
  split at hk <;> first | exact ⟨_, ‹_›⟩ | exact absurd rfl hk

theorem run_isAgg' {P : Program} {t : TypeId} {d : TypeDesc} (h : P.underlying t = some d) (w : World) : (isAgg t).run P w = .ok (kOf P t).isAgg w := by
  unfold isAgg underlying
  simp only [Sem.run_bind, run_program, Result.andThen_ok, h]
  unfold kOf
  rw [h]
  cases d <;> rfl

theorem run_part {P : Program} {t : TypeId} {i : TI} {d : TypeDesc} (h : tiOf P t = some i) (hd : P.underlying t = some d) (cs : List Value) (off : Nat) (hl : off + i.size ≤ cs.length) (w : World) :
    (Go.part t cs.toArray off).run P w = .ok (valOf i.k ((cs.drop off).take i.size)) w := by
  obtain ⟨x, h1, h2, h3⟩ := tiOf_info h
  unfold Go.part valOf
  simp only [Sem.run_bind, run_isAgg' hd, Result.andThen_ok, Sem.run_ite, run_sizeOf h1, h2]
  rw [← h3]
  cases hk : i.k.isAgg with
  | true =>
    simp only [if_true, Sem.run_pure]
    congr 2
    apply Array.ext'
    rw [Array.toList_extract, List.extract_eq_take_drop]
    simp
  | false =>
    have h1 := ti_one h hk
    have hlt : off < cs.length := by omega
    have e : (cs.drop off).take 1 = [cs[off]] := by rw [List.drop_eq_getElem_cons hlt]; rfl
    simp [hlt, h1, e]

theorem ceqs_length : ∀ {l : List Sh} {a b : List AV} {r : Bool}, ceqs l a b = some r → a.length = l.length ∧ b.length = l.length
  | [], [], [], _, _ => ⟨rfl, rfl⟩
  | [], [], _ :: _, _, h => by simp [ceqs] at h
  | [], _ :: _, _, _, h => by simp [ceqs] at h
  | _ :: _, [], _, _, h => by simp [ceqs] at h
  | _ :: _, _ :: _, [], _, h => by simp [ceqs] at h
  | s :: l, x :: a, y :: b, r, h => by
    simp only [ceqs] at h
    split at h
    · rename_i p q hp hq
      have := ceqs_length hq
      simp [this]
    · cases h

theorem ceqs_append : ∀ {l m : List Sh} {a b : List AV} {r : Bool}, ceqs (l ++ m) a b = some r →
    ∃ r1 r2, ceqs l (a.take l.length) (b.take l.length) = some r1 ∧ ceqs m (a.drop l.length) (b.drop l.length) = some r2 ∧ r = (r1 && r2)
  | [], m, a, b, r, h => ⟨true, r, rfl, by simpa using h, by simp⟩
  | s :: l, m, [], b, r, h => by simp [ceqs] at h
  | s :: l, m, _ :: _, [], r, h => by simp [ceqs] at h
  | s :: l, m, x :: a, y :: b, r, h => by
    simp only [List.cons_append, ceqs] at h
    split at h
    · rename_i p q hp hq
      cases h
      obtain ⟨r1, r2, h1, h2, rfl⟩ := ceqs_append hq
      exact ⟨p && r1, r2, by simp [ceqs, hp, h1], by simpa using h2, by simp [Bool.and_assoc]⟩
    · cases h

section
variable {C : Ctx} {w : World} {G : Nat → Nat} {ρ : List Nat} {P : Program}

theorem one_cell_rel {xs : List AV} {vx : List Value} (h : RelAs C w G ρ xs vx) {x : AV} (e : xs = [x]) : ∃ v, vx = [v] ∧ RelA C w G ρ x v := by
  subst e
  simp only [RelAs] at h
  obtain ⟨v, s, rfl, _, h1, rfl⟩ := h
  exact ⟨v, rfl, h1⟩

theorem ceqs_one {s : Sh} {xs ys : List AV} {b : Bool} (h : ceqs [s] xs ys = some b) : ∃ x y, xs = [x] ∧ ys = [y] ∧ ceq s x y = some b := by
  obtain ⟨h1, h2⟩ := ceqs_length h
  match xs, ys, h1, h2 with
  | [x], [y], _, _ =>
    simp only [ceqs] at h
    split at h
    · rename_i p q hp hq
      cases h; cases hq
      exact ⟨x, y, rfl, rfl, by simpa using hp⟩
    · cases h

theorem eqFields_cons (d : Nat) (xs ys : Array Value) (f : Field) (fs : List Field) (hf : f.name ≠ "_") (w : World) (a b : Value) (r r' : Bool)
    (h1 : (Go.part f.type xs f.offset).run P w = .ok a w) (h2 : (Go.part f.type ys f.offset).run P w = .ok b w) (h3 : (Op.equalIn d f.type a b).run P w = .ok r w)
    (h4 : (Op.eqFields d xs ys fs).run P w = .ok r' w) : (Op.eqFields d xs ys (f :: fs)).run P w = .ok (r && r') w := by
  simp only [Op.eqFields, hf, ne_eq, not_false_eq_true, if_true, Sem.run_bind, h1, h2, h3, Result.andThen_ok, Sem.run_ite]
  cases r
  · simp
  · simpa using h4

def eqArr (d : Nat) (e : TypeId) (n : Nat) (xs ys : Array Value) : List Nat → Sem Bool
  | [] => pure true
  | i :: r => do
    let a ← Go.part e xs (i * n)
    let b ← Go.part e ys (i * n)
    let q ← Op.equalIn d e a b
    if (!q) = true then pure false else eqArr d e n xs ys r

theorem run_equalIn_array (d : Nat) (t e : TypeId) (m n : Nat) (xs ys : Array Value) (ht : P.underlying t = some (.array m e)) (hs : ∀ w, (sizeOf e).run P w = .ok n w) (w : World) :
    (Op.equalIn (d + 1) t (.agg xs) (.agg ys)).run P w = (eqArr d e n xs ys (List.range' 0 m)).run P w := by
  simp only [Op.equalIn, Sem.run_bind, run_underlying ht, Result.andThen_ok, hs]
  rw [Std.Legacy.Range.forIn_eq_forIn_range']
  simp only [Std.Legacy.Range.size, Nat.sub_zero, Nat.add_sub_cancel, Nat.div_one]
  generalize List.range' 0 m = l
  induction l generalizing w with
  | nil => simp [eqArr]
  | cons i r ih =>
    simp only [List.forIn_cons, eqArr, Sem.run_bind, Sem.run_ite]
    generalize (Go.part e xs (i * n)).run P w = r1
    cases r1 with
    | ok a w1 =>
      simp only [Result.andThen_ok]
      generalize (Go.part e ys (i * n)).run P w1 = r2
      cases r2 with
      | ok b w2 =>
        simp only [Result.andThen_ok]
        generalize (Op.equalIn d e a b).run P w2 = r3
        cases r3 with
        | ok q w3 =>
          cases q
          · simp only [Result.andThen_ok, Bool.not_false, if_true, Sem.run_pure]
          · simp only [Result.andThen_ok, Bool.not_true, Bool.false_eq_true, if_false, Sem.run_pure]
            exact ih w3
        | halt x w3 => simp [Result.andThen]
      | halt x w2 => simp [Result.andThen]
    | halt x w1 => simp [Result.andThen]

mutual
theorem equalIn_shape : ∀ (n : Nat) (t : TypeId) (sh : List Sh), shapeOf P n t = some sh → ∀ (i : TI), tiOf P t = some i → ∀ (d : Nat), n ≤ d → ∀ (xs ys : List AV) (vx vy : List Value) (b : Bool),
    RelAs C w G ρ xs vx → RelAs C w G ρ ys vy → ceqs sh xs ys = some b → (Op.equalIn d t (valOf i.k vx) (valOf i.k vy)).run P w = .ok b w
  | 0, _, _, h, _, _, _, _, _, _, _, _, _, _, _, _ => by simp [shapeOf] at h
  | n + 1, t, sh, h, i, hi, 0, hd, _, _, _, _, _, _, _, _ => by omega
  | n + 1, t, sh, h, i, hi, d + 1, hd, xs, ys, vx, vy, b, hx, hy, hc => by
    obtain ⟨ix, hinfo, hsz, hk⟩ := tiOf_info hi
    rw [shapeOf] at h
    split at h
    · rename_i k _ hu _
      cases h
      obtain ⟨x, y, rfl, rfl, hq⟩ := ceqs_one hc
      obtain ⟨v, rfl, hv⟩ := one_cell_rel hx rfl
      obtain ⟨u, rfl, hw⟩ := one_cell_rel hy rfl
      have e : i.k.isAgg = false := by rw [hk]; unfold kOf; rw [hu]; rfl
      simp only [valOf, e, Bool.false_eq_true, if_false, List.headD_cons]
      unfold ceq at hq
      split at hq
      · split at hq
        · rename_i hkk
          subst hkk
          cases hq
          rw [relA_int hv, relA_int hw, run_equalIn_int w d t _ k _ _ hu]
          rfl
        · cases hq
      all_goals (first | (exact absurd ‹Sh.int = _› (by simp)) | cases hq)
    · rename_i _ hu _
      cases h
      obtain ⟨x, y, rfl, rfl, hq⟩ := ceqs_one hc
      obtain ⟨v, rfl, hv⟩ := one_cell_rel hx rfl
      obtain ⟨u, rfl, hw⟩ := one_cell_rel hy rfl
      have e : i.k.isAgg = false := by rw [hk]; unfold kOf; rw [hu]; rfl
      simp only [valOf, e, Bool.false_eq_true, if_false, List.headD_cons]
      unfold ceq at hq
      split at hq
      · exact absurd ‹Sh.bool = _› (by simp)
      · cases hq
        rw [relA_bool hv, relA_bool hw]
        exact run_equalIn_bool' w d t _ _ hu
      all_goals (first | (exact absurd ‹Sh.bool = _› (by simp)) | cases hq)
    · rename_i _ hu _
      cases h
      obtain ⟨x, y, rfl, rfl, hq⟩ := ceqs_one hc
      obtain ⟨v, rfl, hv⟩ := one_cell_rel hx rfl
      obtain ⟨u, rfl, hw⟩ := one_cell_rel hy rfl
      have e : i.k.isAgg = false := by rw [hk]; unfold kOf; rw [hu]; rfl
      simp only [valOf, e, Bool.false_eq_true, if_false, List.headD_cons]
      unfold ceq at hq
      split at hq
      · exact absurd ‹Sh.str = _› (by simp)
      · exact absurd ‹Sh.str = _› (by simp)
      · cases hq
        rw [relA_str hv, relA_str hw, run_equalIn_string w d t _ _ hu]
        simp
      · cases hq
    · rename_i fs _ hu _
      split at h
      · cases h
      · rename_i hp
        have e : i.k.isAgg = true := by rw [hk]; unfold kOf; rw [hu]; rfl
        have hfo : P.fieldsOf t = fs := by unfold Program.fieldsOf; rw [hu]
        simp only [valOf, e, if_true]
        rw [run_equalIn_struct w d t _ _ (by rw [hfo]; exact hu) (by simpa using hp), hfo]
        have hlx := RelAs_length hx
        have hly := RelAs_length hy
        exact equalIn_fields n fs.toList 0 sh h d (by omega) xs ys vx vy b hx hy (by omega) (by omega) (by simpa using hc)
    · rename_i m el _ hu _
      split at h
      · rename_i ei l hei hl
        split at h
        · rename_i hsize
          cases h
          obtain ⟨xe, hie, hse, hke⟩ := tiOf_info hei
          have e : i.k.isAgg = true := by rw [hk]; unfold kOf; rw [hu]; rfl
          simp only [valOf, e, if_true]
          rw [run_equalIn_array d t el m ei.size _ _ hu (fun w => by rw [run_sizeOf hie, hse]) w]
          have hde : ∃ de, P.underlying el = some de := by
            cases n with
            | zero => simp [shapeOf] at hl
            | succ n => rw [shapeOf] at hl; split at hl <;> first | exact ⟨_, ‹_›⟩ | cases hl
          obtain ⟨de, hde⟩ := hde
          have key : ∀ (m j : Nat) (b : Bool), ceqs (List.replicate m l).flatten (xs.drop (j * ei.size)) (ys.drop (j * ei.size)) = some b →
              (eqArr d el ei.size vx.toArray vy.toArray (List.range' j m)).run P w = .ok b w := by
            intro m
            induction m with
            | zero =>
              intro j b hb
              simp only [List.replicate_zero, List.flatten_nil] at hb
              have hb2 : b = true := by
                obtain ⟨h1, h2⟩ := ceqs_length hb
                have e1 : xs.drop (j * ei.size) = [] := List.eq_nil_of_length_eq_zero h1
                have e2 : ys.drop (j * ei.size) = [] := List.eq_nil_of_length_eq_zero h2
                rw [e1, e2] at hb
                simpa [ceqs] using hb.symm
              subst hb2
              simp [eqArr]
            | succ m ih =>
              intro j b hb
              rw [List.replicate_succ, List.flatten_cons] at hb
              obtain ⟨r1, r2, h1, h2, rfl⟩ := ceqs_append hb
              have hl1 := ceqs_length hb
              simp only [List.length_drop, List.length_append] at hl1
              have hxl := RelAs_length hx
              have hyl := RelAs_length hy
              rw [← hsize] at h1 h2 hl1
              have hbx : j * ei.size + ei.size ≤ vx.length := by
                rcases Nat.eq_zero_or_pos ei.size with h0 | h0
                · rw [h0]; omega
                · omega
              have hby : j * ei.size + ei.size ≤ vy.length := by
                rcases Nat.eq_zero_or_pos ei.size with h0 | h0
                · rw [h0]; omega
                · omega
              have hrec := equalIn_shape n el l hl ei hei d (by omega) _ _ _ _ r1 (RelAs_take ei.size (RelAs_drop (j * ei.size) hx)) (RelAs_take ei.size (RelAs_drop (j * ei.size) hy)) h1
              have hnext := ih (j + 1) r2 (by
                have e1 : (j + 1) * ei.size = j * ei.size + ei.size := by rw [Nat.add_mul]; omega
                rw [e1, ← List.drop_drop, ← List.drop_drop]; exact h2)
              rw [List.range'_succ]
              simp only [eqArr, Sem.run_bind, run_part hei hde vx (j * ei.size) hbx, run_part hei hde vy (j * ei.size) hby, Result.andThen_ok, hrec, Sem.run_ite]
              cases r1
              · simp
              · simpa using hnext
          have := key m 0 b (by simpa using hc)
          exact this
        · cases h
      · cases h
    · cases h
theorem equalIn_fields : ∀ (n : Nat) (fs : List Field) (o : Nat) (sh : List Sh), shapeFs P n fs o = some sh → ∀ (d : Nat), n ≤ d → ∀ (xs ys : List AV) (vx vy : List Value) (b : Bool),
    RelAs C w G ρ xs vx → RelAs C w G ρ ys vy → o ≤ xs.length → o ≤ ys.length → ceqs sh (xs.drop o) (ys.drop o) = some b → (Op.eqFields d vx.toArray vy.toArray fs).run P w = .ok b w
  | 0, _, _, _, h, _, _, _, _, _, _, _, _, _, _, _, _ => by simp [shapeFs] at h
  | n + 1, [], o, sh, h, d, _, xs, ys, vx, vy, b, _, _, _, _, hc => by
    simp only [shapeFs, Option.some.injEq] at h
    subst h
    obtain ⟨h1, h2⟩ := ceqs_length hc
    have e1 : xs.drop o = [] := List.eq_nil_of_length_eq_zero h1
    have e2 : ys.drop o = [] := List.eq_nil_of_length_eq_zero h2
    rw [e1, e2] at hc
    simp only [ceqs, Option.some.injEq] at hc
    subst hc
    simp [Op.eqFields]
  | n + 1, f :: r, o, sh, h, d, hd, xs, ys, vx, vy, b, hx, hy, ox, oy, hc => by
    rw [shapeFs] at h
    split at h
    · cases h
    · rename_i hn
      have hname : f.name ≠ "_" := fun e => hn (.inl e)
      have hoff : f.offset = o := Classical.byContradiction fun e => hn (.inr e)
      split at h
      · rename_i fi l hfi hl
        split at h
        · rename_i hsize
          split at h
          · rename_i l' hl'
            cases h
            obtain ⟨r1, r2, h1, h2, rfl⟩ := ceqs_append hc
            have hln := ceqs_length hc
            simp only [List.length_drop, List.length_append] at hln
            have hxl := RelAs_length hx
            have hyl := RelAs_length hy
            rw [← hsize] at h1 h2 hln
            have hdf : ∃ de, P.underlying f.type = some de := by
              cases n with
              | zero => simp [shapeOf] at hl
              | succ n => rw [shapeOf] at hl; split at hl <;> first | exact ⟨_, ‹_›⟩ | cases hl
            obtain ⟨de, hde⟩ := hdf
            have hbx : o + fi.size ≤ vx.length := by omega
            have hby : o + fi.size ≤ vy.length := by omega
            have hrec := equalIn_shape n f.type l hl fi hfi d (by omega) _ _ _ _ r1 (RelAs_take fi.size (RelAs_drop o hx)) (RelAs_take fi.size (RelAs_drop o hy)) h1
            have hnext := equalIn_fields n r (o + fi.size) l' hl' d (by omega) xs ys vx vy r2 hx hy (by omega) (by omega) (by rw [← List.drop_drop, ← List.drop_drop]; exact h2)
            exact eqFields_cons d _ _ f r hname w _ _ r1 r2 (by rw [hoff]; exact run_part hfi hde vx o hbx w) (by rw [hoff]; exact run_part hfi hde vy o hby w) hrec hnext
          · cases h
        · cases h
      · cases h
end
end
end Go.AM
