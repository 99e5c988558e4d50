/- What an operation does with memory. -/
import Derived.Test.YtaiakjkdplhooaaGreatDoorAmStep
namespace Go.AM
open Go

/-! ### Memory -/

def sameR (p a n : Nat) (h h2 : H) : Prop := ∃ cs cs2, h[p]? = some cs ∧ h2[p]? = some cs2 ∧ cs2.length = cs.length ∧ ∀ (j : Nat), a ≤ j → j < a + n → cs2[j]? = cs[j]?

def wrH (h : H) (p a : Nat) (vs : List AV) : H := h.set p (splice (h.getD p []) a vs)

abbrev Mem := H → AV → H → Prop

def FpOk (M : Mem) : Fp → H → AV → H → Prop
  | .pure, h, r, h' => h' = h ∧ ∀ h2, M h2 r h2
  | .rd p a n, h, r, h' => h' = h ∧ (∃ cs, h[p]? = some cs) ∧ ∀ h2, sameR p a n h h2 → M h2 r h2
  | .wr p a n, h, r, h' => ∃ cs vs, h[p]? = some cs ∧ vs.length = n ∧ a + n ≤ cs.length ∧ h' = wrH h p a vs ∧ ∀ h2, sameR p a n h h2 → M h2 r (wrH h2 p a vs)
  | .al q, h, r, h' => q = h.length ∧ ∃ cell, h' = h ++ [cell] ∧ ∀ (h2 : H), h2.length = q → M h2 r (h2 ++ [cell])
  | .cc l n m, h, r, h' => ∃ a b y : H, h = a ++ y ∧ h' = b ++ y ∧ a.length = n ∧ b.length = m ∧ n ≤ m ∧ (∀ p, p < n → p ∉ l → b[p]? = a[p]?) ∧ (n < m → y = []) ∧ (n = m → ∀ x, M (a ++ x) r (b ++ x))
  | .eff, _, _, _ => True

theorem FpOk.mono {M M' : Mem} (hm : ∀ h r h', M h r h' → M' h r h') {p : Fp} {h : H} {r : AV} {h' : H} (hf : FpOk M p h r h') : FpOk M' p h r h' := by
  cases p with
  | pure => exact ⟨hf.1, fun h2 => hm _ _ _ (hf.2 h2)⟩
  | rd p a n => exact ⟨hf.1, hf.2.1, fun h2 hs => hm _ _ _ (hf.2.2 h2 hs)⟩
  | wr p a n => obtain ⟨cs, vs, h1, h2, h3, h4, h5⟩ := hf; exact ⟨cs, vs, h1, h2, h3, h4, fun h2 hs => hm _ _ _ (h5 h2 hs)⟩
  | al q => obtain ⟨h1, cell, h2, h3⟩ := hf; exact ⟨h1, cell, h2, fun h2 hs => hm _ _ _ (h3 h2 hs)⟩
  | cc l n m => obtain ⟨a, b, y, h1, h2, h3, h4, h5, h6, h7, h8⟩ := hf; exact ⟨a, b, y, h1, h2, h3, h4, h5, h6, h7, fun e x => hm _ _ _ (h8 e x)⟩
  | eff => trivial

theorem sameR_of {p a n : Nat} {h h2 : H} {cs : List AV} (hc : h[p]? = some cs) (e : h2[p]? = h[p]?) : sameR p a n h h2 := ⟨cs, cs, hc, e.trans hc, rfl, fun _ _ _ => rfl⟩

theorem sameR_get {p a n : Nat} {h h2 : H} (hs : sameR p a n h h2) : ∃ cs, h2[p]? = some cs := by obtain ⟨_, cs2, _, h, _⟩ := hs; exact ⟨cs2, h⟩

theorem sameR_trans {p a n : Nat} {h h2 h3 : H} (h1 : sameR p a n h h2) (h2' : sameR p a n h2 h3) : sameR p a n h h3 := by
  obtain ⟨cs, cs2, e1, e2, e3, e4⟩ := h1
  obtain ⟨cs2', cs3, e1', e2', e3', e4'⟩ := h2'
  rw [e2] at e1'; cases e1'
  exact ⟨cs, cs3, e1, e2', e3'.trans e3, fun j h1 h2 => (e4' j h1 h2).trans (e4 j h1 h2)⟩

theorem sameR_symm {p a n : Nat} {h h2 : H} (h1 : sameR p a n h h2) : sameR p a n h2 h := by
  obtain ⟨cs, cs2, e1, e2, e3, e4⟩ := h1
  exact ⟨cs2, cs, e2, e1, e3.symm, fun j h1 h2 => (e4 j h1 h2).symm⟩

theorem lt_of_some {α : Type} {l : List α} {i : Nat} {x : α} (h : l[i]? = some x) : i < l.length := (List.getElem?_eq_some_iff.1 h).1

theorem splice_len {cs vs : List AV} {a : Nat} (h : a + vs.length ≤ cs.length) : (splice cs a vs).length = cs.length := by
  simp only [splice, List.length_append, List.length_take, List.length_drop]; omega

theorem splice_at {cs vs : List AV} {a : Nat} (h : a + vs.length ≤ cs.length) (j : Nat) : (splice cs a vs)[j]? = if a ≤ j ∧ j < a + vs.length then vs[j - a]? else cs[j]? := by
  have hta : (cs.take a).length = a := by rw [List.length_take]; omega
  unfold splice
  rw [List.append_assoc]
  rcases Nat.lt_or_ge j a with h1 | h1
  · rw [List.getElem?_append_left (by rw [hta]; exact h1), List.getElem?_take, if_pos h1, if_neg (by omega)]
  · rw [List.getElem?_append_right (by rw [hta]; exact h1), hta]
    rcases Nat.lt_or_ge j (a + vs.length) with h2 | h2
    · rw [List.getElem?_append_left (by omega), if_pos ⟨h1, h2⟩]
    · rw [List.getElem?_append_right (by omega), List.getElem?_drop, if_neg (by omega)]
      congr 1; omega

theorem wrH_get {h : H} {p a : Nat} {vs : List AV} {cs : List AV} (hc : h[p]? = some cs) (q : Nat) : (wrH h p a vs)[q]? = if p = q then some (splice cs a vs) else h[q]? := by
  unfold wrH
  rw [List.getElem?_set]
  split
  · rename_i e; subst e
    rw [if_pos (lt_of_some hc)]
    simp [List.getD_eq_getElem?_getD, hc]
  · rfl

theorem wrH_length (h : H) (p a : Nat) (vs : List AV) : (wrH h p a vs).length = h.length := by simp [wrH]

/-- A place that a write leaves alone. -/
theorem sameR_wr {h : H} {p a : Nat} {vs cs : List AV} (hc : h[p]? = some cs) (hl : a + vs.length ≤ cs.length) {q b m : Nat} {cs' : List AV} (hq : h[q]? = some cs')
    (hap : apartR p a vs.length q b m = true) : sameR q b m h (wrH h p a vs) := by
  rw [sameR]
  simp only [wrH_get hc]
  by_cases e : p = q
  · subst e
    rw [hc] at hq; cases hq
    refine ⟨cs, splice cs a vs, hc, by simp, splice_len hl, fun j h1 h2 => ?_⟩
    rw [splice_at hl, if_neg]
    simp [apartR] at hap
    omega
  · exact ⟨cs', cs', hq, by rw [if_neg e]; exact hq, rfl, fun _ _ _ => rfl⟩

theorem apartR_symm {p a n q b m : Nat} : apartR p a n q b m = apartR q b m p a n := by
  unfold apartR
  by_cases e : p = q
  · subst e; simp [Bool.or_comm]
  · have e' : ¬ q = p := fun h => e h.symm
    have h1 : (p == q) = false := by simp [e]
    have h2 : (q == p) = false := by simp [e']
    simp [bne, h1, h2]

theorem wr_comm {h : H} {p a : Nat} {vs cs : List AV} (hc : h[p]? = some cs) (hl : a + vs.length ≤ cs.length) {q b : Nat} {us cs' : List AV} (hq : h[q]? = some cs') (hl' : b + us.length ≤ cs'.length)
    (hap : apartR p a vs.length q b us.length = true) : wrH (wrH h q b us) p a vs = wrH (wrH h p a vs) q b us := by
  apply List.ext_getElem?
  intro j
  have h1 : (wrH h q b us)[p]? = if q = p then some (splice cs' b us) else h[p]? := wrH_get hq p
  have h2 : (wrH h p a vs)[q]? = if p = q then some (splice cs a vs) else h[q]? := wrH_get hc q
  by_cases e : p = q
  · subst e
    rw [hc] at hq; cases hq
    simp only [if_true] at h1 h2
    rw [wrH_get h1, wrH_get h2]
    split
    · congr 1
      apply List.ext_getElem?
      intro i
      rw [splice_at (cs := splice cs b us) (vs := vs) (by rw [splice_len hl']; exact hl), splice_at (cs := splice cs a vs) (vs := us) (by rw [splice_len hl]; exact hl'), splice_at hl, splice_at hl']
      simp [apartR] at hap
      split <;> split <;> first | rfl | omega
    · rename_i hne; rw [wrH_get hc, wrH_get hc, if_neg hne, if_neg hne]
  · have e' : ¬ q = p := fun h => e h.symm
    rw [if_neg e'] at h1
    rw [if_neg e] at h2
    rw [wrH_get (h1.trans hc), wrH_get (h2.trans hq), wrH_get hc, wrH_get hq]
    split
    · rename_i e1; subst e1; rw [if_neg e']
    · rfl

theorem sameR_snoc {h : H} {p a n : Nat} {cell : List AV} {cs : List AV} (hc : h[p]? = some cs) : sameR p a n h (h ++ [cell]) :=
  sameR_of hc (by rw [List.getElem?_append_left (lt_of_some hc)])

theorem wrH_snoc {h : H} {p a : Nat} {vs cs cell : List AV} (hc : h[p]? = some cs) : wrH (h ++ [cell]) p a vs = wrH h p a vs ++ [cell] := by
  unfold wrH
  have hp := lt_of_some hc
  rw [List.getD_eq_getElem?_getD, List.getD_eq_getElem?_getD, List.getElem?_append_left hp, List.set_append_left _ _ hp]

theorem cc_nil {l : List Nat} {n m : Nat} {M : Mem} {h h' : H} {r : AV} (hf : FpOk M (.cc l n m) h r h') (hl : l = []) (hn : n = m) : h' = h := by
  obtain ⟨a, b, y, rfl, rfl, ha, hb, _, h6, _, _⟩ := hf
  have : b = a := by
    apply List.ext_getElem?
    intro j
    rcases Nat.lt_or_ge j n with h | h
    · exact h6 j h (by rw [hl]; simp)
    · rw [List.getElem?_eq_none (by omega), List.getElem?_eq_none (by omega)]
  rw [this]

theorem swapM {M1 M2 : Mem} {p q : Fp} {h h1 h2 : H} {r1 r2 : AV} (f1 : FpOk M1 p h r1 h1) (m1 : M1 h r1 h1) (f2 : FpOk M2 q h1 r2 h2) (m2 : M2 h1 r2 h2) (hc : compat p q = true) :
    ∃ h1', FpOk M2 q h r2 h1' ∧ M2 h r2 h1' ∧ FpOk M1 p h1' r1 h2 ∧ M1 h1' r1 h2 := by
  by_cases hp : p = .pure
  · subst hp
    obtain ⟨rfl, k⟩ := f1
    exact ⟨h2, f2, m2, ⟨rfl, k⟩, k _⟩
  by_cases hq : q = .pure
  · subst hq
    obtain ⟨rfl, k⟩ := f2
    exact ⟨h, ⟨rfl, k⟩, k _, f1, m1⟩
  cases p with
  | pure => exact absurd rfl hp
  | eff => cases q <;> simp [compat] at hc <;> exact absurd rfl hq
  | rd p a n =>
    obtain ⟨rfl, ⟨cs, hcs⟩, k1⟩ := f1
    cases q with
    | pure => exact absurd rfl hq
    | eff => simp [compat] at hc
    | rd q b m =>
      obtain ⟨rfl, k2, k3⟩ := f2
      exact ⟨_, ⟨rfl, k2, k3⟩, m2, ⟨rfl, ⟨cs, hcs⟩, k1⟩, m1⟩
    | wr q b m =>
      have f2' := f2
      obtain ⟨cs', us, e1, e2, e3, rfl, e5⟩ := f2
      simp only [compat] at hc
      have hs : sameR p a n h1 (wrH h1 q b us) := sameR_wr e1 (by omega) hcs (by rw [e2, ← apartR_symm]; exact hc)
      exact ⟨_, f2', m2, ⟨rfl, sameR_get hs, fun h2 hh => k1 h2 (sameR_trans hs hh)⟩, k1 _ hs⟩
    | al q =>
      have f2' := f2
      obtain ⟨e1, cell, rfl, e3⟩ := f2
      have hs : sameR p a n h1 (h1 ++ [cell]) := sameR_snoc hcs
      exact ⟨_, f2', m2, ⟨rfl, sameR_get hs, fun h2 hh => k1 h2 (sameR_trans hs hh)⟩, k1 _ hs⟩
    | cc l n' m' =>
      have f2' := f2
      obtain ⟨x, b, y, rfl, rfl, ha, hb, h5, h6, h7, h8⟩ := f2
      simp only [compat, Bool.and_eq_true, decide_eq_true_eq, Bool.not_eq_true', List.contains_eq_mem, decide_eq_false_iff_not] at hc
      have hs : sameR p a n (x ++ y) (b ++ y) := sameR_of hcs (by rw [List.getElem?_append_left (by omega), List.getElem?_append_left (by omega)]; exact h6 p hc.1 hc.2)
      exact ⟨_, f2', m2, ⟨rfl, sameR_get hs, fun h2 hh => k1 h2 (sameR_trans hs hh)⟩, k1 _ hs⟩
  | wr p a n =>
    have f1' := f1
    obtain ⟨cs, vs, e1, e2, e3, rfl, e5⟩ := f1
    cases q with
    | pure => exact absurd rfl hq
    | eff => simp [compat] at hc
    | cc l n' m' => simp [compat] at hc
    | rd q b m =>
      obtain ⟨rfl, ⟨cs2, k2⟩, k3⟩ := f2
      simp only [compat] at hc
      have hq' : ∃ cs', h[q]? = some cs' := by
        rw [wrH_get e1] at k2
        split at k2
        · rename_i e; subst e; exact ⟨_, e1⟩
        · exact ⟨_, k2⟩
      obtain ⟨cs', hq'⟩ := hq'
      have hs : sameR q b m h (wrH h p a vs) := sameR_wr e1 (by omega) hq' (by rw [e2]; exact hc)
      exact ⟨h, ⟨rfl, ⟨cs', hq'⟩, fun h2 hh => k3 h2 (sameR_trans (sameR_symm hs) hh)⟩, k3 _ (sameR_symm hs), f1', m1⟩
    | wr q b m =>
      obtain ⟨cs2, us, k1, k2, k3, rfl, k5⟩ := f2
      simp only [compat] at hc
      have hq' : ∃ cs', h[q]? = some cs' ∧ cs'.length = cs2.length := by
        rw [wrH_get e1] at k1
        split at k1
        · rename_i e; subst e; cases k1; exact ⟨_, e1, (splice_len (by omega)).symm⟩
        · exact ⟨_, k1, rfl⟩
      obtain ⟨cs', hq', hle⟩ := hq'
      have hs : sameR q b m h (wrH h p a vs) := sameR_wr e1 (by omega) hq' (by rw [e2]; exact hc)
      have hs' : sameR p a n h (wrH h q b us) := sameR_wr hq' (by omega) e1 (by rw [k2, apartR_symm]; exact hc)
      have hcomm : wrH (wrH h q b us) p a vs = wrH (wrH h p a vs) q b us := wr_comm e1 (by omega) hq' (by omega) (by rw [e2, k2]; exact hc)
      refine ⟨wrH h q b us, ⟨cs', us, hq', k2, by omega, rfl, fun h2 hh => k5 h2 (sameR_trans (sameR_symm hs) hh)⟩, k5 _ (sameR_symm hs), ?_, ?_⟩
      · obtain ⟨cs3, hcs3⟩ := sameR_get hs'
        have hl3 : cs3.length = cs.length := by
          obtain ⟨x, y, z1, z2, z3, _⟩ := hs'
          rw [hcs3] at z2; rw [e1] at z1; cases z1; cases z2; exact z3
        exact ⟨cs3, vs, hcs3, e2, by omega, hcomm.symm, fun h2 hh => e5 h2 (sameR_trans hs' hh)⟩
      · rw [← hcomm]; exact e5 _ hs'
    | al q =>
      obtain ⟨k1, cell, rfl, k3⟩ := f2
      rw [wrH_length] at k1
      have hs : sameR p a n h (h ++ [cell]) := sameR_snoc e1
      refine ⟨h ++ [cell], ⟨k1, cell, rfl, k3⟩, k3 _ k1.symm, ?_, ?_⟩
      · exact ⟨cs, vs, by rw [List.getElem?_append_left (lt_of_some e1)]; exact e1, e2, e3, (wrH_snoc e1).symm, fun h2 hh => e5 h2 (sameR_trans hs hh)⟩
      · rw [← wrH_snoc e1]; exact e5 _ hs
  | al p =>
    have f1' := f1
    obtain ⟨e1, cell, rfl, e3⟩ := f1
    have down : ∀ {q : Nat} {cs : List AV}, (h ++ [cell])[q]? = some cs → p ≠ q → h[q]? = some cs := by
      intro q cs hq hne
      have := lt_of_some hq
      simp at this
      rw [List.getElem?_append_left (by omega)] at hq
      exact hq
    cases q with
    | pure => exact absurd rfl hq
    | eff => simp [compat] at hc
    | cc l n' m' => simp [compat] at hc
    | al q => simp [compat] at hc
    | rd q b m =>
      obtain ⟨rfl, ⟨cs2, k2⟩, k3⟩ := f2
      simp [compat] at hc
      have hs : sameR q b m h (h ++ [cell]) := sameR_snoc (down k2 (fun e => hc e.symm))
      exact ⟨h, ⟨rfl, ⟨_, down k2 (fun e => hc e.symm)⟩, fun h2 hh => k3 h2 (sameR_trans (sameR_symm hs) hh)⟩, k3 _ (sameR_symm hs), f1', m1⟩
    | wr q b m =>
      obtain ⟨cs2, us, k1, k2, k3, rfl, k5⟩ := f2
      simp [compat] at hc
      have hs : sameR q b m h (h ++ [cell]) := sameR_snoc (down k1 (fun e => hc e.symm))
      refine ⟨wrH h q b us, ⟨cs2, us, down k1 (fun e => hc e.symm), k2, k3, rfl, fun h2 hh => k5 h2 (sameR_trans (sameR_symm hs) hh)⟩, k5 _ (sameR_symm hs), ?_, ?_⟩
      · exact ⟨by rw [wrH_length]; exact e1, cell, wrH_snoc (down k1 (fun e => hc e.symm)), e3⟩
      · rw [wrH_snoc (down k1 (fun e => hc e.symm))]; exact e3 _ (by rw [wrH_length]; exact e1.symm)
  | cc l n m =>
    cases q with
    | pure => exact absurd rfl hq
    | eff => simp [compat] at hc
    | wr q b m => simp [compat] at hc
    | rd q b k =>
      have f1' := f1
      obtain ⟨x, b', y, rfl, rfl, ha, hb, h5, h6, h7, h8⟩ := f1
      obtain ⟨rfl, ⟨cs, hcs⟩, k1⟩ := f2
      simp only [compat, Bool.and_eq_true, decide_eq_true_eq, Bool.not_eq_true', List.contains_eq_mem, decide_eq_false_iff_not] at hc
      have he : (x ++ y)[q]? = (b' ++ y)[q]? := by rw [List.getElem?_append_left (by omega), List.getElem?_append_left (by omega)]; exact (h6 q hc.1 hc.2).symm
      have hs : sameR q b k (b' ++ y) (x ++ y) := sameR_of hcs he
      exact ⟨_, ⟨rfl, ⟨cs, he.trans hcs⟩, fun h2 hh => k1 h2 (sameR_trans hs hh)⟩, k1 _ hs, f1', m1⟩
    | cc l' n' m' =>
      simp only [compat, Bool.and_eq_true, List.isEmpty_iff, beq_iff_eq] at hc
      obtain ⟨⟨⟨hl, hl'⟩, hn⟩, hn'⟩ := hc
      have ea := cc_nil f1 hl hn
      have eb := cc_nil f2 hl' hn'
      subst ea
      subst eb
      exact ⟨_, f2, m2, f1, m1⟩
    | al q =>
      obtain ⟨x, b', y, rfl, rfl, ha, hb, h5, h6, h7, h8⟩ := f1
      obtain ⟨k1, cell, rfl, k3⟩ := f2
      simp only [compat, beq_iff_eq] at hc
      have hlen : (x ++ y).length = (b' ++ y).length := by simp; omega
      refine ⟨x ++ y ++ [cell], ⟨by rw [hlen]; exact k1, cell, rfl, k3⟩, k3 _ (by rw [hlen]; exact k1.symm), ?_, ?_⟩
      · exact ⟨x, b', y ++ [cell], by rw [List.append_assoc], by rw [List.append_assoc], ha, hb, h5, h6, fun h => by omega, h8⟩
      · rw [List.append_assoc, List.append_assoc]; exact h8 hc _

end Go.AM
