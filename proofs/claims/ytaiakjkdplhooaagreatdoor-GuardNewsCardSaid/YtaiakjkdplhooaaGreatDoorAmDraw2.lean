/- Regions whose order is open. -/
import Derived.Test.YtaiakjkdplhooaaGreatDoorAmFp2
namespace Go.AM
open Go

section
variable {C : Ctx} {ops : Array Oper} {f : FuncId}

/-- What isn't listed is as it was. -/
def Keeps (L : List Nat) (h h' : H) : Prop := h.length ≤ h'.length ∧ ∀ (p : Nat), p < h.length → p ∉ L → h'[p]? = h[p]?

theorem Keeps.refl (L : List Nat) (h : H) : Keeps L h h := ⟨Nat.le_refl _, fun _ _ _ => rfl⟩

def CallOk (C : Ctx) (call : ACall) : Prop := ∀ k av h r h' L, call k av h = some (r, h', L) → FnDoes C k av h r h' ∧ Keeps L h h'

theorem aop_keeps {t : List AV} {h h' : H} {o : Oper} {r : AV} (ha : aop C f t h o = some (r, h')) : Keeps (owr C f t o) h h' := by
  have pp : ∀ (X : Option AV), aop C f t h o = X.map (fun a => (a, h)) → Keeps (owr C f t o) h h' := by
    intro X hX
    rw [hX] at ha
    obtain ⟨b, hb, e⟩ := Option.map_eq_some_iff.1 ha
    simp only [Prod.mk.injEq] at e
    obtain ⟨rfl, rfl⟩ := e
    exact Keeps.refl _ _
  have same : ∀ {h2 : H}, h2 = h → Keeps (owr C f t o) h h2 := fun e => by subst e; exact Keeps.refl _ _
  have snoc : ∀ (c : List AV), Keeps (owr C f t o) h (h ++ [c]) := fun c => ⟨by simp, fun p hp _ => by rw [List.getElem?_append_left hp]⟩
  have hfp := aop_fp ha []
  obtain ⟨dst, op, type, pos, after, guard⟩ := o
  cases op
  case alloc ty =>
    obtain ⟨i, hi, e⟩ := Option.map_eq_some_iff.1 ha
    simp only [Prod.mk.injEq] at e
    obtain ⟨rfl, rfl⟩ := e
    exact snoc _
  case box ty x =>
    obtain ⟨i, hi, e⟩ := Option.map_eq_some_iff.1 ha
    simp only [Prod.mk.injEq] at e
    obtain ⟨rfl, rfl⟩ := e
    exact snoc _
  case load ty x =>
    simp only [aop, owr] at ha ⊢
    cases hx : see C t x with
    | ptr p off =>
      simp only [hx] at ha ⊢
      cases dst with
      | none =>
        obtain ⟨b, hb, e⟩ := Option.map_eq_some_iff.1 ha
        simp only [Prod.mk.injEq] at e
        obtain ⟨rfl, rfl⟩ := e
        exact Keeps.refl _ _
      | some d =>
        simp only at ha ⊢
        split at ha
        · rename_i htk
          rw [if_pos htk]
          split at ha
          · split at ha
            · simp only [Option.some.injEq, Prod.mk.injEq] at ha
              obtain ⟨rfl, rfl⟩ := ha
              refine ⟨by simp, fun q hq hn => ?_⟩
              rw [List.getElem?_set_ne (by simpa using Ne.symm (by simpa using hn))]
            · cases ha
          · cases ha
        · obtain ⟨b, hb, e⟩ := Option.map_eq_some_iff.1 ha
          simp only [Prod.mk.injEq] at e
          obtain ⟨rfl, rfl⟩ := e
          exact Keeps.refl _ _
    | _ =>
      simp only [hx] at ha ⊢
      cases dst <;> (obtain ⟨b, hb, e⟩ := Option.map_eq_some_iff.1 ha; simp only [Prod.mk.injEq] at e; obtain ⟨rfl, rfl⟩ := e; exact Keeps.refl _ _)
  case store ty x y =>
    simp only [aop, owr] at ha ⊢
    obtain ⟨b, hb, e⟩ := Option.map_eq_some_iff.1 ha
    simp only [Prod.mk.injEq] at e
    obtain ⟨rfl, rfl⟩ := e
    unfold astore at hb
    split at hb
    · rename_i i p off vs hi hx hc
      simp only [hx]
      split at hb
      · split at hb
        · simp only [Option.some.injEq] at hb
          subst hb
          refine ⟨by simp, fun q hq hn => ?_⟩
          rw [List.getElem?_set_ne (by simpa using Ne.symm (by simpa using hn))]
        · cases hb
      · cases hb
    · cases hb
  all_goals first
    | (simp only [fpOf] at hfp; exact same hfp.1)
    | (simp only [aop] at ha; cases ha)
    | skip
  case call c =>
    obtain ⟨cal, args, ts⟩ := c
    cases cal with
    | value g => simp only [aop] at ha; cases ha
    | invoke g n => simp only [aop] at ha; cases ha
    | builtin b => simp only [fpOf] at hfp; exact same hfp.1
def GlobOk (C : Ctx) : Prop := ∀ n g, okA n (C.glob g) = true

theorem okA_cst (n : Nat) (v : Value) : okA n (cst v) = true := by
  unfold cst
  split <;> first | rfl | (split <;> rfl)

theorem okA_down {n : Nat} {a : AV} (h : okA n a = true) : okA n a.down = true := by
  cases a <;> first | exact h | rfl

theorem okAs_map_down {n : Nat} : ∀ {cs : List AV}, okAs n cs = true → okAs n (cs.map .down) = true
  | [], _ => rfl
  | a :: r, h => by
    simp only [okAs, Bool.and_eq_true, List.map_cons] at h ⊢
    exact ⟨okA_down h.1, okAs_map_down h.2⟩

theorem okA_deep {n : Nat} {a : AV} (h : okA n a = true) : okA n a.deep = true := by
  cases a with
  | agg cs => simp only [okA, AV.deep] at h ⊢; exact okAs_map_down h
  | own t l => rfl
  | _ => exact h

theorem okA_aval (hg : GlobOk C) {n : Nat} {t : List AV} (ht : okAs n t = true) (x : Operand) : okA n (aval C t x) = true := by
  cases x with
  | tmp i =>
    simp only [aval, List.getD_eq_getElem?_getD]
    cases hi : t[i]? with
    | none => rfl
    | some a => exact okAs_get ht hi
  | const v => exact okA_cst n v
  | global g => exact hg n g
  | func k => rfl

theorem okAs_aargs (hg : GlobOk C) {n : Nat} {t : List AV} (ht : okAs n t = true) (own : Option Nat) : ∀ (i : Nat) (xs : List Operand), okAs n (aargs C t own i xs) = true
  | _, [] => rfl
  | i, x :: r => by
    simp only [aargs, okAs, Bool.and_eq_true]
    refine ⟨?_, okAs_aargs hg ht own (i + 1) r⟩
    split
    · exact okA_aval hg ht x
    · exact okA_deep (okA_aval hg ht x)

theorem okAs_append {n : Nat} : ∀ {a b : List AV}, okAs n a = true → okAs n b = true → okAs n (a ++ b) = true
  | [], _, _, h => h
  | x :: r, b, h, h' => by
    simp only [okAs, Bool.and_eq_true, List.cons_append] at h ⊢
    exact ⟨h.1, okAs_append h.2 h'⟩

/-- One operation, with what it does with memory. -/
def StepF (C : Ctx) (f : FuncId) (ops : Array Oper) (o : Oper) (p : Fp) (s s' : AS) : Prop :=
  ∃ r c, ResG C f ops s.t s.h o r s'.h c ∧ (∀ i, c = some i → i ∈ conT C f o) ∧ s'.t = putT (downT s.t c) o.dst r ∧ FpOk (fun h r h' => ResG C f ops s.t h o r h' c) p s.h r s'.h

theorem tmp?_mem {x : Operand} {i : Tmp} (h : Operand.tmp? x = some i) : x = .tmp i := by
  cases x <;> simp [Operand.tmp?] at h
  rw [h]

theorem ownTmp_mem {own : Option Nat} {xs : List Operand} {i : Tmp} (h : ownTmp own xs = some i) : Operand.tmp i ∈ xs := by
  unfold ownTmp at h
  split at h
  · rename_i j
    obtain ⟨x, hx, e⟩ := Option.bind_eq_some_iff.1 h
    rw [← tmp?_mem e]
    exact List.mem_of_getElem? hx
  · cases h

theorem astep_res {call : ACall} (hcall : CallOk C call) (hg : GlobOk C) {s s' : AS} {o : Oper} (hgd : aguard ops s.t o = some true) (ha : astep C call f o s = some s') :
    ∃ W, s'.wr = W ++ s.wr ∧ Keeps W s.h s'.h ∧ StepF C f ops o (fpOf C f s.t s.h o s'.h W) s s' := by
  unfold astep at ha
  split at ha
  · rename_i r h' hop
    simp only [Option.some.injEq] at ha
    subst ha
    refine ⟨owr C f s.t o, rfl, aop_keeps hop, r, consumed C f o, .inl ⟨hgd, .inl ⟨hop, rfl⟩⟩, ?_, rfl, (aop_fp hop _).mono (fun _ _ _ h => .inl ⟨hgd, .inl ⟨h, rfl⟩⟩)⟩
    intro i hi
    unfold conT
    split
    · rename_i cl hcl
      have hbu : ∃ b, cl.callee = .builtin b := by
        cases hc : cl.callee with
        | builtin b => exact ⟨b, rfl⟩
        | value g => simp [aop, hcl, hc] at hop
        | invoke g n => simp [aop, hcl, hc] at hop
      obtain ⟨b, hb⟩ := hbu
      simp only [hb, hi]; simp
    · simp [hi]
  · split at ha
    · rename_i cl hcl
      split at ha
      · rename_i g hgc
        split at ha
        · rename_i k caps hsee
          split at ha
          · rename_i r h' L hc
            simp only [Option.some.injEq] at ha
            subst ha
            obtain ⟨hF, hKp⟩ := hcall _ _ _ _ _ _ hc
            refine ⟨L, rfl, hKp, r, ownTmp (C.pol.ownArg k) cl.args.toList, .inl ⟨hgd, .inr ⟨cl, g, k, caps, hcl, hgc, hsee, hF, rfl⟩⟩, ?_, rfl, ?_⟩
            · intro i hi
              unfold conT
              simp only [hcl, hgc]
              split
              · rename_i heq
                simp only [Callee.value.injEq] at heq
                subst heq
                simp only [see, aval, AV.down, AV.fn.injEq] at hsee
                rw [hsee.1, hi]; simp
              · rename_i heq; cases heq
              · have := ownTmp_mem hi
                unfold opTmps
                refine List.mem_filterMap.2 ⟨.tmp i, ?_, rfl⟩
                rw [hcl]
                simp only [Op.operands, Call.operands, hgc]
                simp
                exact .inr (by simpa using this)
            · unfold fpOf
              simp only [hcl, hgc]
              split
              · rename_i hcond
                simp only [Bool.and_eq_true, decide_eq_true_eq] at hcond
                obtain ⟨hlen, ht, hh⟩ := hcond
                refine ⟨s.h, h', [], by simp, by simp, rfl, rfl, hlen, fun p hp hn => hKp.2 p hp hn, fun _ => rfl, fun e x => ?_⟩
                have hcaps : okAs s.h.length caps = true := by
                  have := okA_down (okA_aval hg ht g)
                  rw [show (aval C s.t g).down = see C s.t g from rfl, hsee] at this
                  simpa only [okA] using this
                exact .inl ⟨hgd, .inr ⟨cl, g, k, caps, hcl, hgc, hsee, fnDoes_frame hF e hg (okAs_append (okAs_aargs hg ht _ 0 _) hcaps) hh x, rfl⟩⟩
              · trivial
          · cases ha
        · cases ha
      · cases ha
    · cases ha

theorem skip_res {s : AS} {o : Oper} (hgd : aguard ops s.t o = some false) : StepF C f ops o .pure s ⟨putT s.t o.dst (.tup []), s.h, s.wr⟩ :=
  ⟨.tup [], none, .inr ⟨hgd, rfl, rfl, rfl⟩, (fun i hi => by cases hi), rfl, ⟨rfl, fun _ => .inr ⟨hgd, rfl, rfl, rfl⟩⟩⟩

theorem put_get (t : List AV) (c d : Option Tmp) (r : AV) (j : Nat) :
    (putT (downT t c) d r)[j]? = if d = some j then t[j]?.map (fun _ => r) else if c = some j then t[j]?.map AV.down else t[j]? := by
  have hd : ∀ (j : Nat), (downT t c)[j]? = if c = some j then t[j]?.map AV.down else t[j]? := by
    intro j
    cases c with
    | none => simp [downT]
    | some i =>
      simp only [downT, List.getElem?_set, Option.some.injEq]
      split
      · rename_i e; subst e
        cases ht : t[i]? with
        | none => rw [if_neg (by rw [List.getElem?_eq_none_iff] at ht; omega)]; rfl
        | some a => rw [if_pos (lt_of_some ht)]; simp [List.getD_eq_getElem?_getD, ht]
      · rfl
  cases d with
  | none => simp only [putT]; rw [hd]; simp
  | some i =>
    simp only [putT, List.getElem?_set, Option.some.injEq]
    split
    · rename_i e; subst e
      have hl : (downT t c).length = t.length := by cases c <;> simp [downT]
      cases ht : t[i]? with
      | none => rw [if_neg (by rw [List.getElem?_eq_none_iff] at ht; omega)]; rfl
      | some a => rw [if_pos (by rw [hl]; exact lt_of_some ht)]; rfl
    · exact hd j

theorem disj_spec {a b : List Tmp} (h : disj a b = true) {i : Tmp} (ha : i ∈ a) : i ∉ b := by
  unfold disj at h
  rw [List.all_eq_true] at h
  have := h i ha
  simpa using this

theorem put_comm (t : List AV) (c1 d1 c2 d2 : Option Tmp) (r1 r2 : AV) (h : ∀ i, (d1 = some i ∨ c1 = some i) → ¬ (d2 = some i ∨ c2 = some i)) :
    putT (downT (putT (downT t c2) d2 r2) c1) d1 r1 = putT (downT (putT (downT t c1) d1 r1) c2) d2 r2 := by
  apply List.ext_getElem?
  intro j
  rw [put_get, put_get, put_get, put_get]
  have := h j
  by_cases h1 : d1 = some j <;> by_cases h2 : d2 = some j <;> by_cases h3 : c1 = some j <;> by_cases h4 : c2 = some j <;> simp_all

theorem swap_step {x y : Oper} {p q : Fp} {s s1 s2 : AS} (hx : StepF C f ops x p s s1) (hy : StepF C f ops y q s1 s2) (hi : tindep C f ops x y = true) (hc : compat p q = true) :
    ∃ s1', StepF C f ops y q s s1' ∧ StepF C f ops x p s1' s2 := by
  obtain ⟨r1, c1, m1, k1, e1, f1⟩ := hx
  obtain ⟨r2, c2, m2, k2, e2, f2⟩ := hy
  simp only [tindep, Bool.and_eq_true] at hi
  obtain ⟨⟨i1, i2⟩, i3⟩ := hi
  have w1 : ∀ i, (x.dst = some i ∨ c1 = some i) → i ∈ wrT C f x := by
    rintro i (h | h)
    · exact List.mem_append_left _ (by simp [h])
    · exact List.mem_append_right _ (k1 i h)
  have w2 : ∀ i, (y.dst = some i ∨ c2 = some i) → i ∈ wrT C f y := by
    rintro i (h | h)
    · exact List.mem_append_left _ (by simp [h])
    · exact List.mem_append_right _ (k2 i h)
  have sy : Same ops y s1.t s.t := by
    intro i hi
    rw [e1, List.getD_eq_getElem?_getD, List.getD_eq_getElem?_getD, put_get]
    rw [if_neg (fun h => disj_spec i1 (w1 i (.inl h)) hi), if_neg (fun h => disj_spec i1 (w1 i (.inr h)) hi)]
  have m2' := fun h r h' (hr : ResG C f ops s1.t h y r h' c2) => resG_congr sy hr
  obtain ⟨h1', g1, g2, g3, g4⟩ := swapM f1 m1 (f2.mono m2') (m2' _ _ _ m2) hc
  have sx : Same ops x s.t (putT (downT s.t c2) y.dst r2) := by
    intro i hi
    rw [List.getD_eq_getElem?_getD, List.getD_eq_getElem?_getD, put_get]
    rw [if_neg (fun h => disj_spec i3 (w2 i (.inl h)) hi), if_neg (fun h => disj_spec i3 (w2 i (.inr h)) hi)]
  have m1' := fun h r h' (hr : ResG C f ops s.t h x r h' c1) => resG_congr sx hr
  refine ⟨⟨putT (downT s.t c2) y.dst r2, h1', []⟩, ⟨r2, c2, g2, k2, rfl, g1⟩, r1, c1, m1' _ _ _ g4, k1, ?_, g3.mono m1'⟩
  rw [e2, e1]
  exact (put_comm s.t c1 x.dst c2 y.dst r1 r2 (fun i h1 h2 => disj_spec i2 (w1 i h1) (w2 i h2))).symm

def Chain (C : Ctx) (f : FuncId) (ops : Array Oper) : List (Nat × Fp) → AS → AS → Prop
  | [], s, s' => s.t = s'.t ∧ s.h = s'.h
  | (i, p) :: r, s, s' => ∃ o s1, ops[i]? = some o ∧ StepF C f ops o p s s1 ∧ Chain C f ops r s1 s'

def Indep (C : Ctx) (f : FuncId) (ops : Array Oper) (a b : Nat × Fp) : Prop := ∀ x y, ops[a.1]? = some x → ops[b.1]? = some y → tindep C f ops x y = true ∧ compat a.2 b.2 = true

theorem front {i : Nat} {p : Fp} {l2 : List (Nat × Fp)} {s' : AS} : ∀ (l1 : List (Nat × Fp)) (s : AS), Chain C f ops (l1 ++ (i, p) :: l2) s s' → (∀ a ∈ l1, Indep C f ops a (i, p)) →
    ∃ o s1, ops[i]? = some o ∧ StepF C f ops o p s s1 ∧ Chain C f ops (l1 ++ l2) s1 s'
  | [], s, hc, _ => hc
  | (j, q) :: l1, s, hc, hi => by
    obtain ⟨x, s1, hx, h1, h2⟩ := hc
    obtain ⟨y, s2, hy, h3, h4⟩ := front l1 s1 h2 (fun a ha => hi a (by simp [ha]))
    obtain ⟨h5, h6⟩ := hi (j, q) (by simp) x y hx hy
    obtain ⟨s1', h7, h8⟩ := swap_step h1 h3 h5 h6
    exact ⟨y, s1', hy, h7, x, s2, hx, h8, h4⟩

/-! ### Whom one must wait for -/

theorem force_eq {α : Type} (n : Nat) (k : Nat → α) : force n k = k n := by cases n <;> rfl

theorem befs_length : ∀ (l : List Oper) (acc : List Nat), (befs l acc).length = acc.length + l.length
  | [], acc => by simp [befs]
  | o :: r, acc => by simp [befs, force_eq, befs_length r]; omega

theorem befs_take : ∀ (l : List Oper) (acc : List Nat), (befs l acc).take acc.length = acc
  | [], acc => by simp [befs]
  | o :: r, acc => by
    simp only [befs, force_eq]
    have := befs_take r (acc ++ [bef1 acc o.after.toList])
    have h2 := congrArg (List.take acc.length) this
    rw [List.take_take] at h2
    simpa using h2

theorem befs_get : ∀ (l : List Oper) (acc : List Nat) (j : Nat) (o : Oper), l[j]? = some o → (befs l acc)[acc.length + j]? = some (bef1 ((befs l acc).take (acc.length + j)) o.after.toList)
  | [], acc, j, o, h => by simp at h
  | x :: r, acc, 0, o, h => by
    simp at h; subst h
    have h0 := befs_take (x :: r) acc
    rw [Nat.add_zero, h0]
    simp only [befs, force_eq]
    have := befs_take r (acc ++ [bef1 acc x.after.toList])
    have h2 := congrArg (fun l => l[acc.length]?) this
    simp only [List.getElem?_take] at h2
    rw [if_pos (by simp)] at h2
    rw [h2]; simp
  | x :: r, acc, j + 1, o, h => by
    simp only [befs, force_eq]
    have := befs_get r (acc ++ [bef1 acc x.after.toList]) j o (by simpa using h)
    simp only [List.length_append, List.length_cons, List.length_nil] at this
    rw [show acc.length + (j + 1) = acc.length + (0 + 1) + j by omega]
    exact this

theorem bef1_bit {acc : List Nat} {i : Nat} : ∀ (es : List Edge), (bef1 acc es).testBit i = true → ∃ e ∈ es, Region.binds .any e = true ∧ (e.on = i ∨ (acc.getD e.on 0).testBit i = true)
  | [], h => by simp [bef1] at h
  | e :: r, h => by
    simp only [bef1] at h
    split at h
    · rename_i hb
      simp only [Nat.testBit_or, Bool.or_eq_true] at h
      rcases h with (h | h) | h
      · refine ⟨e, by simp, hb, .inl ?_⟩
        rw [Nat.testBit_two_pow] at h
        simpa using h
      · exact ⟨e, by simp, hb, .inr h⟩
      · obtain ⟨e', h1, h2⟩ := bef1_bit r h
        exact ⟨e', by simp [h1], h2⟩
    · obtain ⟨e', h1, h2⟩ := bef1_bit r h
      exact ⟨e', by simp [h1], h2⟩

/-- Whoever is listed, all it waits for is. -/
def Closed (ops : Array Oper) (listed : Array Bool) : Prop := ∀ (i : Nat) (o : Oper), ops[i]? = some o → listed.getD i false = true → ∀ e ∈ o.after, Region.binds .any e = true → listed.getD e.on false = true

theorem bit_listed {listed : Array Bool} (_hsz : listed.size = ops.size) (hcl : Closed ops listed) : ∀ (j : Nat) (o : Oper), ops[j]? = some o → (∀ e ∈ o.after, Region.binds .any e = true → listed.getD e.on false = true) →
    ∀ i, ((befs ops.toList []).getD j 0).testBit i = true → listed.getD i false = true := by
  intro j
  induction j using Nat.strongRecOn with
  | ind j ih =>
    intro o ho hpre i hb
    have hg := befs_get ops.toList [] j o (by rw [Array.getElem?_toList]; exact ho)
    simp only [List.length_nil, Nat.zero_add] at hg
    rw [List.getD_eq_getElem?_getD, hg, Option.getD_some] at hb
    obtain ⟨e, he, hbe, h⟩ := bef1_bit _ hb
    have hle := hpre e (by simpa using he) hbe
    rcases h with rfl | h
    · exact hle
    · rw [List.getD_eq_getElem?_getD, List.getElem?_take] at h
      split at h
      · rename_i hlt
        have hex : ∃ o', ops[e.on]? = some o' := by
          have : e.on < ops.size := by rw [Array.getElem?_eq_some_iff] at ho; obtain ⟨h1, _⟩ := ho; omega
          exact ⟨_, Array.getElem?_eq_getElem this⟩
        obtain ⟨o', ho'⟩ := hex
        exact ih e.on hlt o' ho' (hcl e.on o' ho' hle) i (by rw [List.getD_eq_getElem?_getD]; exact h)
      · simp at h

theorem edgesOk_spec : ∀ (l : List Oper) (j : Nat), edgesOk j l = true → ∀ (i : Nat) (o : Oper), l[i]? = some o → ∀ e ∈ o.after, Region.binds .any e = true → e.on < j + i
  | [], j, _, i, o, h => by simp at h
  | x :: r, j, hk, i, o, h => by
    simp only [edgesOk, Bool.and_eq_true] at hk
    intro e he hb
    cases i with
    | zero =>
      simp at h; subst h
      have := Array.all_eq_true_iff_forall_mem.1 hk.1 e he
      simpa [hb] using this
    | succ i =>
      have := edgesOk_spec r (j + 1) hk.2 i o (by simpa using h) e he hb
      omega

def zipF : Nat → List Oper → List Fp → List (Nat × Fp)
  | j, _ :: r, p :: l => (j, p) :: zipF (j + 1) r l
  | _, _, _ => []

theorem zipF_mem : ∀ (l : List Oper) (fps : List Fp) (j : Nat) (a : Nat × Fp), a ∈ zipF j l fps → j ≤ a.1 ∧ ∃ o, l[a.1 - j]? = some o
  | [], fps, j, a, h => by cases fps <;> simp [zipF] at h
  | x :: r, [], j, a, h => by simp [zipF] at h
  | x :: r, p :: fps, j, a, h => by
    simp only [zipF, List.mem_cons] at h
    rcases h with rfl | h
    · exact ⟨Nat.le_refl _, x, by simp⟩
    · obtain ⟨h1, o, h2⟩ := zipF_mem r fps (j + 1) a h
      exact ⟨by omega, o, by rw [show a.1 - j = (a.1 - (j + 1)) + 1 by omega]; simpa using h2⟩

theorem zipF_sorted : ∀ (l : List Oper) (fps : List Fp) (j : Nat), (zipF j l fps).Pairwise (fun a b => a.1 < b.1)
  | [], fps, j => by cases fps <;> simp [zipF]
  | x :: r, [], j => by simp [zipF]
  | x :: r, p :: fps, j => by
    simp only [zipF, List.pairwise_cons]
    exact ⟨fun a ha => (zipF_mem r fps (j + 1) a ha).1, zipF_sorted r fps (j + 1)⟩

theorem zipF_all : ∀ (l : List Oper) (fps : List Fp) (j i : Nat), fps.length = l.length → i < l.length → ∃ a ∈ zipF j l fps, a.1 = j + i
  | [], fps, j, i, _, h => by simp at h
  | x :: r, [], j, i, h, _ => by simp at h
  | x :: r, p :: fps, j, 0, _, _ => ⟨(j, p), by simp [zipF], rfl⟩
  | x :: r, p :: fps, j, i + 1, h, hi => by
    obtain ⟨a, h1, h2⟩ := zipF_all r fps (j + 1) i (by simpa using h) (by simpa using hi)
    exact ⟨a, by simp [zipF, h1], by omega⟩

theorem zipF_length : ∀ (l : List Oper) (fps : List Fp) (j : Nat), (zipF j l fps).length ≤ l.length
  | [], fps, j => by cases fps <;> simp [zipF]
  | x :: r, [], j => by simp [zipF]
  | x :: r, p :: fps, j => by simp [zipF]; exact zipF_length r fps (j + 1)

def Pair (C : Ctx) (f : FuncId) (ops : Array Oper) (a b : Nat × Fp) : Prop := ((befs ops.toList []).getD b.1 0).testBit a.1 = true ∨ Indep C f ops a b

theorem drawOk1_spec {i : Nat} {x : Oper} {p : Fp} (hx : ops[i]? = some x) : ∀ (l : List Oper) (fps : List Fp) (j : Nat), (∀ (k : Nat) (o : Oper), l[k]? = some o → ops[j + k]? = some o) →
    drawOk1 C f ops (befs ops.toList []) i x p j l fps = true → ∀ a ∈ zipF j l fps, Pair C f ops (i, p) a
  | [], fps, j, _, _, a, ha => by cases fps <;> simp [zipF] at ha
  | y :: r, [], j, _, _, a, ha => by simp [zipF] at ha
  | y :: r, q :: fps, j, hl, hk, a, ha => by
    simp only [drawOk1, Bool.and_eq_true] at hk
    simp only [zipF, List.mem_cons] at ha
    rcases ha with rfl | ha
    · have := hk.1
      rw [Bool.or_eq_true] at this
      refine this.imp id (fun h => ?_)
      intro x' y' hx' hy'
      rw [hx] at hx'; cases hx'
      have := hl 0 y rfl
      simp only [Nat.add_zero] at this
      rw [this] at hy'; cases hy'
      simpa using h
    · exact drawOk1_spec hx r fps (j + 1) (fun k o h => by have := hl (k + 1) o (by simpa using h); rw [show j + 1 + k = j + (k + 1) by omega]; exact this) hk.2 a ha

theorem drawOkL_spec : ∀ (l : List Oper) (fps : List Fp) (j : Nat), (∀ (k : Nat) (o : Oper), l[k]? = some o → ops[j + k]? = some o) →
    drawOkL C f ops (befs ops.toList []) j l fps = true → (zipF j l fps).Pairwise (Pair C f ops)
  | [], fps, j, _, _ => by cases fps <;> simp [zipF]
  | y :: r, [], j, _, _ => by simp [zipF]
  | y :: r, q :: fps, j, hl, hk => by
    simp only [drawOkL, Bool.and_eq_true] at hk
    have hl' : ∀ (k : Nat) (o : Oper), r[k]? = some o → ops[j + 1 + k]? = some o := fun k o h => by have := hl (k + 1) o (by simpa using h); rw [show j + 1 + k = j + (k + 1) by omega]; exact this
    simp only [zipF, List.pairwise_cons]
    exact ⟨drawOk1_spec (by simpa using hl 0 y rfl) r fps (j + 1) hl' hk.1, drawOkL_spec r fps (j + 1) hl' hk.2⟩

theorem adops_chain {call : ACall} (hcall : CallOk C call) (hg : GlobOk C) : ∀ (l : List Oper) (j : Nat) (s s' : AS) (fps : List Fp), (∀ (k : Nat) (o : Oper), l[k]? = some o → ops[j + k]? = some o) →
    adops C call f ops l s = some (s', fps) → fps.length = l.length ∧ Chain C f ops (zipF j l fps) s s'
  | [], j, s, s', fps, _, h => by simp [adops] at h; obtain ⟨rfl, rfl⟩ := h; exact ⟨rfl, rfl, rfl⟩
  | o :: r, j, s, s', fps, hl, h => by
    have hl' : ∀ (k : Nat) (o : Oper), r[k]? = some o → ops[j + 1 + k]? = some o := fun k o h => by have := hl (k + 1) o (by simpa using h); rw [show j + 1 + k = j + (k + 1) by omega]; exact this
    have h0 : ops[j]? = some o := by simpa using hl 0 o rfl
    simp only [adops] at h
    split at h
    · rename_i hgd
      split at h
      · rename_i s1 hst
        split at h
        · rename_i s2 l2 hr
          simp only [Option.some.injEq, Prod.mk.injEq] at h
          obtain ⟨rfl, rfl⟩ := h
          obtain ⟨k1, k2⟩ := adops_chain hcall hg r (j + 1) _ s2 l2 hl' hr
          obtain ⟨W, hW, _, hstep⟩ := astep_res (ops := ops) (s := ⟨s.t, s.h, []⟩) hcall hg hgd hst
          have hW' : s1.wr = W := by rw [hW]; simp
          rw [← hW'] at hstep
          exact ⟨by simp [k1], o, ⟨s1.t, s1.h, s1.wr ++ s.wr⟩, h0, hstep, k2⟩
        · cases h
      · cases h
    · rename_i hgd
      split at h
      · rename_i s2 l2 hr
        simp only [Option.some.injEq, Prod.mk.injEq] at h
        obtain ⟨rfl, rfl⟩ := h
        obtain ⟨k1, k2⟩ := adops_chain hcall hg r (j + 1) _ s2 l2 hl' hr
        exact ⟨by simp [k1], o, _, h0, skip_res hgd, k2⟩
      · cases h
    · cases h

variable {w0 : World} {G0 : Nat → Nat} {ρ0 : List Nat} {S0 : Nat → Prop}

theorem st_same {s s' : AS} {a : Act} {w : World} (e1 : s.t = s'.t) (e2 : s.h = s'.h) (h : St C w0 G0 ρ0 S0 s a w) : St C w0 G0 ρ0 S0 s' a w := by
  obtain ⟨hd, hx⟩ := h
  rw [e1, e2] at hx
  exact ⟨hd, hx⟩

theorem chain_any {Q : Exit → Act → World → Prop} (hed : edgesOk 0 ops.toList = true) {s' : AS} (hQ : ∀ a' w', St C w0 G0 ρ0 S0 s' a' w' → Q .normal a' w') :
    ∀ (fuel : Nat) (L : List (Nat × Fp)) (listed : Array Bool) (s : AS) (a : Act) (w : World), L.length ≤ fuel → listed.size = ops.size → (∀ i, i < ops.size → (listed.getD i true = false ↔ ∃ p, (i, p) ∈ L)) →
      (∀ b ∈ L, b.1 < ops.size) → L.Pairwise (fun a b => a.1 < b.1) → L.Pairwise (Pair C f ops) → Closed ops listed → Chain C f ops L s s' → St C w0 G0 ρ0 S0 s a w → wpAny C.P .any ops Q fuel listed a w := by
  have hmin : ∀ (L : List (Nat × Fp)) (listed : Array Bool), listed.size = ops.size → (∀ i, i < ops.size → (listed.getD i true = false ↔ ∃ p, (i, p) ∈ L)) → (∀ b ∈ L, b.1 < ops.size) →
      L.Pairwise (fun a b => a.1 < b.1) → Region.ready .any ops listed = [] → L = [] := by
    intro L listed hsz hL hlt hsort hr
    cases L with
    | nil => rfl
    | cons b r =>
      exfalso
      have hb : b.1 < ops.size := hlt b (by simp)
      have hm : b.1 ∈ Region.ready .any ops listed := by
        refine mem_ready.2 ⟨(hL b.1 hb).2 ⟨b.2, by simp⟩, ops[b.1], Array.getElem?_eq_getElem hb, fun e he hbi => ?_⟩
        have hlt' := edgesOk_spec ops.toList 0 hed b.1 ops[b.1] (by rw [Array.getElem?_toList]; exact Array.getElem?_eq_getElem hb) e he hbi
        have hs : e.on < ops.size := by omega
        have hx : ¬ listed.getD e.on true = false := by
          rw [hL e.on hs]
          rintro ⟨p, hp⟩
          simp only [List.mem_cons] at hp
          rcases hp with hp | hp
          · rw [← hp] at hlt'; simp at hlt'
          · have := (List.pairwise_cons.1 hsort).1 _ hp
            simp only at this
            omega
        have hs' : e.on < listed.size := by omega
        simp only [Array.getD, hs', dif_pos] at hx ⊢
        simpa using hx
      rw [hr] at hm
      cases hm
  intro fuel
  induction fuel with
  | zero =>
    intro L listed s a w hlen hsz hL hlt hsort hpair hcl hch hst
    have : L = [] := List.eq_nil_of_length_eq_zero (by omega)
    subst this
    refine ⟨?_, ?_⟩
    · cases hr : Region.ready .any ops listed with
      | nil => rfl
      | cons i r =>
        exfalso
        have hm : i ∈ Region.ready .any ops listed := by rw [hr]; simp
        obtain ⟨h1, o, ho, _⟩ := mem_ready.1 hm
        obtain ⟨p, hp⟩ := (hL i (Array.getElem?_eq_some_iff.1 ho).1).1 h1
        cases hp
    · obtain ⟨e1, e2⟩ := hch
      exact hQ a w (st_same e1 e2 hst)
  | succ fuel ih =>
    intro L listed s a w hlen hsz hL hlt hsort hpair hcl hch hst
    refine ⟨fun hr => ?_, fun i hi => ?_⟩
    · have := hmin L listed hsz hL hlt hsort hr
      subst this
      obtain ⟨e1, e2⟩ := hch
      exact hQ a w (st_same e1 e2 hst)
    · obtain ⟨h1, o, ho, hpre⟩ := mem_ready.1 hi
      have his : i < ops.size := (Array.getElem?_eq_some_iff.1 ho).1
      obtain ⟨p, hp⟩ := (hL i his).1 h1
      obtain ⟨l1, l2, rfl⟩ := List.append_of_mem hp
      have hind : ∀ b ∈ l1, Indep C f ops b (i, p) := by
        intro b hb
        have hP : Pair C f ops b (i, p) := (List.pairwise_append.1 hpair).2.2 b hb (i, p) (by simp)
        rcases hP with hbit | h
        · exfalso
          have hl := bit_listed hsz hcl i o ho hpre b.1 hbit
          have hbl := (hL b.1 (hlt b (by simp [hb]))).2 ⟨b.2, by simp [hb]⟩
          have hs' : b.1 < listed.size := by rw [hsz]; exact hlt b (by simp [hb])
          simp only [Array.getD, hs', dif_pos] at hl hbl
          rw [hl] at hbl; cases hbl
        · exact h
      obtain ⟨o', s1, ho', hstep, hch'⟩ := front l1 s hch hind
      rw [ho] at ho'; cases ho'
      obtain ⟨r, c, hres, _, het, _⟩ := hstep
      refine step_sound hst ho hres (fun a' w' hst' => ?_)
      have hsl : (l1 ++ l2).Sublist (l1 ++ (i, p) :: l2) := List.Sublist.append (List.Sublist.refl _) (List.sublist_cons_self _ _)
      have hsort' := hsort
      rw [List.pairwise_append] at hsort'
      refine ih (l1 ++ l2) _ s1 a' w' (by simp only [List.length_append, List.length_cons] at hlen ⊢; omega) (by simpa using hsz) ?_ (fun b hb => hlt b (hsl.subset hb)) (hsort.sublist hsl) (hpair.sublist hsl) ?_ hch' (st_wr (by rw [← het] at hst'; exact hst'))
      · intro j hj
        by_cases hij : i = j
        · subst hij
          have hs' : i < listed.size := by omega
          constructor
          · intro h; simp [hs'] at h
          · rintro ⟨q, hq⟩
            exfalso
            rcases List.mem_append.1 hq with hq | hq
            · have := hsort'.2.2 _ hq (i, p) (by simp); simp at this
            · have := (List.pairwise_cons.1 hsort'.2.1).1 _ hq; simp at this
        · rw [getD_set_ne true hij, hL j hj]
          constructor
          · rintro ⟨q, hq⟩
            refine ⟨q, ?_⟩
            simp only [List.mem_append, List.mem_cons, Prod.mk.injEq] at hq ⊢
            rcases hq with hq | ⟨hq, _⟩ | hq
            · exact .inl hq
            · exact absurd hq.symm hij
            · exact .inr hq
          · rintro ⟨q, hq⟩
            exact ⟨q, hsl.subset hq⟩
      · intro j oj hoj hlj e he hbe
        by_cases hij : i = j
        · subst hij
          rw [ho] at hoj; cases hoj
          exact getD_set_true (hpre e he hbe)
        · rw [getD_set_ne false hij] at hlj
          exact getD_set_true (hcl j oj hoj hlj e he hbe)

theorem st_drew {s : AS} {a : Act} {w : World} (hst : St C w0 G0 ρ0 S0 s a w) : St C w0 G0 ρ0 S0 s a { w with drawn := w.drawn + 1 } := by
  obtain ⟨hd, G, ρ, hp, I, T⟩ := hst
  obtain ⟨I', key⟩ := Inv.move (w' := { w with drawn := w.drawn + 1 }) I (Tr.drew (S := fun _ => True)).toMono (fun _ _ _ => ⟨rfl, rfl⟩) (fun _ _ => rfl) I.objG I.out
  refine ⟨hd, G, ρ, hp, I', T.trans (Tr.drew.weaken (fun _ h => h) (fun b hb => ?_))⟩
  exact hb.imp id (fun ⟨x, hx⟩ => ⟨x, (key x b).1 hx⟩)

theorem region_draw {call : ACall} (hm : C.P.follows .mixedOrders = true) (hcall : CallOk C call) (hg : GlobOk C) {id : Nat} {s s' : AS} {fps : List Fp} (h : adops C call f ops ops.toList s = some (s', fps))
    (hk : drawOk C f ops fps = true) {Q : Exit → Act → World → Prop} {a : Act} {w : World} (hst : St C w0 G0 ρ0 S0 s a w) (hQ : ∀ a' w', St C w0 G0 ρ0 S0 s' a' w' → Q .normal a' w') :
    (Code.region id ops true).wp C.P Q a w := by
  simp only [drawOk, Bool.and_eq_true] at hk
  obtain ⟨⟨_, hed⟩, hd⟩ := hk
  have hl0 : ∀ (k : Nat) (o : Oper), ops.toList[k]? = some o → ops[0 + k]? = some o := fun k o h => by rw [Nat.zero_add]; rw [Array.getElem?_toList] at h; exact h
  obtain ⟨hlen, hch⟩ := adops_chain hcall hg ops.toList 0 s s' fps hl0 h
  refine wp_region_any hm (chain_any hed hQ ops.size (zipF 0 ops.toList fps) _ s a _ (by simpa using zipF_length ops.toList fps 0) (by simp) ?_ ?_ (zipF_sorted _ _ _) (drawOkL_spec _ _ _ hl0 hd) ?_ hch (st_drew hst))
  · intro i hi
    have h1 : (Array.replicate ops.size false).getD i true = false := by simp [Array.getD, hi]
    simp only [h1, true_iff]
    obtain ⟨b, hb, e⟩ := zipF_all ops.toList fps 0 i hlen (by simpa using hi)
    exact ⟨b.2, by rw [Nat.zero_add] at e; rw [← e]; exact hb⟩
  · intro b hb
    obtain ⟨_, o, ho⟩ := zipF_mem _ _ _ b hb
    simp only [Nat.sub_zero, Array.getElem?_toList] at ho
    exact (Array.getElem?_eq_some_iff.1 ho).1
  · intro i o ho hl
    have hi := (Array.getElem?_eq_some_iff.1 ho).1
    simp [Array.getD, hi] at hl

end
end Go.AM
