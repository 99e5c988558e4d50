/- More operations that only reckon, or read. -/
import Derived.Test.YtaiakjkdplhooaaGreatDoorAmEq
namespace Go.AM
open Go

section
variable {C : Ctx} {w : World} {G : Nat → Nat} {ρ : List Nat}

theorem ti_k {t : TypeId} {i : TI} (h : C.ti t = some i) : i.k = kOf C.P t := by
  obtain ⟨_, _, _, _, _, _, _, _, h, _⟩ := ti_info h; exact h

theorem tk_ti {t : TypeId} {k : TK} (h : C.tk t = some k) : ∃ i, C.ti t = some i ∧ i.k = k := by
  unfold Ctx.tk at h
  exact Option.map_eq_some_iff.1 h

theorem tk_kOf {t : TypeId} {k : TK} (h : C.tk t = some k) : kOf C.P t = k := by
  obtain ⟨i, hi, rfl⟩ := tk_ti h
  exact (ti_k hi).symm

theorem ti_under {t : TypeId} {i : TI} (h : C.ti t = some i) : ∃ d, C.P.underlying t = some d := by
  obtain ⟨_, _, _, _, _, _, _, _, h1, h2⟩ := ti_info h
  refine underlying_some (fun e => ?_)
  rw [← h1] at e
  rw [e] at h2
  cases h2

/-! ### '==' -/
theorem eq_ptr_nn {P : Program} {t e : TypeId} (h : P.underlying t = some (.pointer e)) (d : Nat) (a : Option Addr) (w : World) : (Op.equalIn (d + 1) t (.pointer none) (.pointer a)).run P w = .ok a.isNone w := by
  cases a <;> simp [Op.equalIn, run_underlying h]
theorem eq_ptr_sn {P : Program} {t e : TypeId} (h : P.underlying t = some (.pointer e)) (d : Nat) (a : Addr) (w : World) : (Op.equalIn (d + 1) t (.pointer (some a)) (.pointer none)).run P w = .ok false w := by
  simp [Op.equalIn, run_underlying h]
theorem eq_fn_nn {P : Program} {t : TypeId} {a b : Array TypeId} {c : Bool} (h : P.underlying t = some (.func a b c)) (d : Nat) (w : World) : (Op.equalIn (d + 1) t .nilFunc .nilFunc).run P w = .ok true w := by
  simp [Op.equalIn, run_underlying h]
theorem eq_fn_ns {P : Program} {t : TypeId} {a b : Array TypeId} {c : Bool} (h : P.underlying t = some (.func a b c)) (d : Nat) (f : Fn) (x y : Array Value) (w : World) : (Op.equalIn (d + 1) t .nilFunc (.func f x y)).run P w = .ok false w := by
  simp [Op.equalIn, run_underlying h]
theorem eq_fn_sn {P : Program} {t : TypeId} {a b : Array TypeId} {c : Bool} (h : P.underlying t = some (.func a b c)) (d : Nat) (f : Fn) (x y : Array Value) (w : World) : (Op.equalIn (d + 1) t (.func f x y) .nilFunc).run P w = .ok false w := by
  simp [Op.equalIn, run_underlying h]
theorem eq_if_ns {P : Program} {t : TypeId} {a : Array (String × TypeId)} (h : P.underlying t = some (.interface a)) (d : Nat) (u : TypeId) (x : Value) (w : World) : (Op.equalIn (d + 1) t .nilIface (.iface u x)).run P w = .ok false w := by
  simp [Op.equalIn, run_underlying h]
theorem eq_if_sn {P : Program} {t : TypeId} {a : Array (String × TypeId)} (h : P.underlying t = some (.interface a)) (d : Nat) (u : TypeId) (x : Value) (w : World) : (Op.equalIn (d + 1) t (.iface u x) .nilIface).run P w = .ok false w := by
  simp [Op.equalIn, run_underlying h]

theorem equal_eq (t : TypeId) (x y : Value) : Op.equal t x y = Op.equalIn (9999 + 1) t x y := rfl

theorem yields_aeql {t : TypeId} {x y : AV} {vx vy : Value} {b : Bool} (hx : RelA C w G ρ x vx) (hy : RelA C w G ρ y vy) (h : aeql C t x y = some b) (X Y : Operand) :
    (eqGuard .eql t X Y vx vy).run C.P w = .ok () w ∧ (eqGuard .neq t X Y vx vy).run C.P w = .ok () w ∧
    binOp .eql t vx vy = (do pure (.bool (← Op.equal t vx vy))) ∧ binOp .neq t vx vy = (do pure (.bool (!(← Op.equal t vx vy)))) ∧ (Op.equalIn (9999 + 1) t vx vy).run C.P w = .ok b w := by
  unfold aeql at h
  split at h
  · rename_i hk; simp only [Option.some.injEq] at h; subst h
    rw [relA_bool hx, relA_bool hy]
    exact ⟨rfl, rfl, rfl, rfl, run_equalIn_bool' w _ t _ _ (kOf_bool (tk_kOf hk))⟩
  · rename_i hk; simp only [Option.some.injEq] at h; subst h
    simp only [RelA] at hx hy; subst hx; subst hy
    obtain ⟨e, he⟩ := kOf_ptr (P := C.P) (t := t) (tk_kOf hk)
    exact ⟨rfl, rfl, rfl, rfl, eq_ptr_nn he _ none w⟩
  · rename_i hk; simp only [Option.some.injEq] at h; subst h
    simp only [RelA] at hx hy; subst hx; obtain ⟨_, _, rfl⟩ := hy
    obtain ⟨e, he⟩ := kOf_ptr (P := C.P) (t := t) (tk_kOf hk)
    exact ⟨rfl, rfl, rfl, rfl, eq_ptr_nn he _ (some _) w⟩
  · rename_i hk; simp only [Option.some.injEq] at h; subst h
    simp only [RelA] at hx hy; subst hy; obtain ⟨_, _, rfl⟩ := hx
    obtain ⟨e, he⟩ := kOf_ptr (P := C.P) (t := t) (tk_kOf hk)
    exact ⟨rfl, rfl, rfl, rfl, eq_ptr_sn he _ _ w⟩
  · rename_i hk; simp only [Option.some.injEq] at h; subst h
    simp only [RelA] at hx hy; subst hx; subst hy
    obtain ⟨_, _, _, he⟩ := kOf_func (P := C.P) (t := t) (tk_kOf hk)
    exact ⟨rfl, rfl, rfl, rfl, eq_fn_nn he _ w⟩
  · rename_i hk; simp only [Option.some.injEq] at h; subst h
    simp only [RelA] at hx hy; subst hx; obtain ⟨_, rfl, _⟩ := hy
    obtain ⟨_, _, _, he⟩ := kOf_func (P := C.P) (t := t) (tk_kOf hk)
    exact ⟨rfl, rfl, rfl, rfl, eq_fn_ns he _ _ _ _ w⟩
  · rename_i hk; simp only [Option.some.injEq] at h; subst h
    simp only [RelA] at hx hy; subst hy; obtain ⟨_, rfl, _⟩ := hx
    obtain ⟨_, _, _, he⟩ := kOf_func (P := C.P) (t := t) (tk_kOf hk)
    exact ⟨rfl, rfl, rfl, rfl, eq_fn_sn he _ _ _ _ w⟩
  · rename_i hk; simp only [Option.some.injEq] at h; subst h
    simp only [RelA] at hx hy; subst hx; obtain ⟨_, rfl, _⟩ := hy
    obtain ⟨_, he⟩ := kOf_iface (P := C.P) (t := t) (tk_kOf hk)
    exact ⟨rfl, rfl, rfl, rfl, eq_if_ns he _ _ _ w⟩
  · rename_i hk; simp only [Option.some.injEq] at h; subst h
    simp only [RelA] at hx hy; subst hy; obtain ⟨_, rfl, _⟩ := hx
    obtain ⟨_, he⟩ := kOf_iface (P := C.P) (t := t) (tk_kOf hk)
    exact ⟨rfl, rfl, rfl, rfl, eq_if_sn he _ _ _ w⟩
  · rename_i xs ys
    unfold aeqAgg at h
    split at h
    · rename_i k hk
      obtain ⟨i, hi, rfl⟩ := tk_ti hk
      split at h
      · cases h
      · rename_i hg
        split at h
        · rename_i l hl
          simp only [RelA] at hx hy
          obtain ⟨vs, rfl, _, hx⟩ := hx
          obtain ⟨us, rfl, _, hy⟩ := hy
          simp only [Bool.or_eq_true, Bool.not_eq_true', not_or, Bool.not_eq_true, Bool.not_eq_false] at hg
          refine ⟨run_eqGuard_agg w _ _ _ _ _ _ hg.1, run_eqGuard_agg w _ _ _ _ _ _ hg.1, rfl, rfl, ?_⟩
          have := equalIn_shape (P := C.P) 100 t l hl i hi (9999 + 1) (by omega) xs ys vs us b hx hy h
          simpa only [valOf, hg.2, if_true] using this
        · cases h
    · cases h
  · cases h

theorem yields_abin {op : BinOp} {t : TypeId} {x y r : AV} {vx vy : Value} (hx : RelA C w G ρ x vx) (hy : RelA C w G ρ y vy) (h : abin C op t x y = some r) (X Y : Operand) :
    Yields C w G ρ (do eqGuard op t X Y vx vy; binOp op t vx vy) r := by
  have hn : ∀ (a b : Value), (∀ l m, ¬ (a = .agg l ∧ b = .agg m)) → ¬ (a = .nilIface ∧ b = .nilIface) → eqGuard op t X Y a b = pure () := by
    intro a b h1 h2
    unfold eqGuard
    cases op <;> first | rfl | (cases a <;> cases b <;> first | rfl | (exact absurd ⟨rfl, rfl⟩ h2) | (exact absurd ⟨rfl, rfl⟩ (h1 _ _)))
  unfold abin at h
  split at h
  · split at h
    · cases h
    · rename_i k a j b hb
      simp only [pint, Option.some.injEq] at h
      subst h
      rw [relA_int hx, relA_int hy, hn _ _ (by simp) (by simp)]
      exact ⟨rfl, _, by simp [binOp, Op.shift, hb]; rfl, by simp [RelA, RelP]⟩
  · split at h
    · cases h
    · rename_i k a j b hb
      simp only [pint, Option.some.injEq] at h
      subst h
      rw [relA_int hx, relA_int hy, hn _ _ (by simp) (by simp)]
      exact ⟨rfl, _, by simp [binOp, Op.shift, hb]; rfl, by simp [RelA, RelP]⟩
  · split at h
    · rename_i hk
      subst hk
      rw [relA_int hx, relA_int hy, hn _ _ (by simp) (by simp)]
      exact yields_abinInt h t
    · cases h
  · rw [relA_str hx, relA_str hy, hn _ _ (by simp) (by simp)]
    exact yields_abinStr h t
  · obtain ⟨b, hb, hp⟩ := Option.bind_eq_some_iff.1 h
    simp only [pb, Option.some.injEq] at hp
    subst hp
    obtain ⟨h1, _, h3, _, h4⟩ := yields_aeql hx hy hb X Y
    refine ⟨rfl, .bool b, ?_, by simp [RelA, RelP]⟩
    rw [h3]
    simp only [Sem.run_bind, h1, Result.andThen_ok, equal_eq, h4, Sem.run_pure]
  · obtain ⟨b, hb, hp⟩ := Option.bind_eq_some_iff.1 h
    simp only [pb, Option.some.injEq] at hp
    subst hp
    obtain ⟨_, h1, _, h3, h4⟩ := yields_aeql hx hy hb X Y
    refine ⟨rfl, .bool !b, ?_, by simp [RelA, RelP]⟩
    rw [h3]
    simp only [Sem.run_bind, h1, Result.andThen_ok, equal_eq, h4, Sem.run_pure]
  · cases h

/-! ### Indexes, pieces, fields -/
theorem nat?_some {a : AV} {v : Value} {n : Nat} (ha : RelA C w G ρ a v) (h : nat? a = some n) : ∃ k, v = .int k (n : Int) := by
  unfold nat? at h
  split at h
  · split at h
    · rename_i k m hm
      simp only [Option.some.injEq] at h
      subst h
      rw [relA_int ha]
      exact ⟨k, by rw [Int.toNat_of_nonneg hm]⟩
    · cases h
  · cases h

theorem run_sliceBound (k : IntKind) (n y : Nat) (c : BoundsCode) (h : n ≤ y) (w : World) : (Instr.sliceBound (.int k (n : Int)) y c).run C.P w = .ok n w := by
  simp [Instr.sliceBound, asIntOf, h]

/-- A bound that is named stands for its value. -/
def RelO (C : Ctx) (w : World) (G : Nat → Nat) (ρ : List Nat) : Option AV → Option Value → Prop
  | none, v => v = none
  | some a, v => ∃ u, v = some u ∧ RelA C w G ρ a u

/-- Bounds that fit. -/
theorem run_sliceBounds {lo hi : Option AV} {vlo vhi : Option Value} (isSlice : Bool) (len cap l h : Nat) (hlen : len ≤ cap)
    (hlo : RelO C w G ρ lo vlo) (hhi : RelO C w G ρ hi vhi) (eh : bnd hi len = some h) (el : bnd lo 0 = some l) (h1 : l ≤ h) (h2 : h ≤ len) :
    (Instr.sliceBounds isSlice len cap vlo vhi none).run C.P w = .ok (l, h, cap) w := by
  have eB : ∀ k c, (Instr.sliceBound (.int k (h : Int)) cap c).run C.P w = .ok h w := fun k c => run_sliceBound k h cap c (by omega) w
  have eL : ∀ k c, (Instr.sliceBound (.int k (l : Int)) h c).run C.P w = .ok l w := fun k c => run_sliceBound k l h c h1 w
  cases hi with
  | none =>
    simp only [RelO] at hhi; subst hhi
    simp only [bnd, Option.some.injEq] at eh; subst eh
    cases lo with
    | none =>
      simp only [RelO] at hlo; subst hlo
      simp only [bnd, Option.some.injEq] at el; subst el
      rfl
    | some a =>
      obtain ⟨v, rfl, hv⟩ := hlo
      obtain ⟨k, rfl⟩ := nat?_some hv el
      simp [Instr.sliceBounds, eL]
  | some b =>
    obtain ⟨u, rfl, hu⟩ := hhi
    obtain ⟨k', rfl⟩ := nat?_some hu eh
    cases lo with
    | none =>
      simp only [RelO] at hlo; subst hlo
      simp only [bnd, Option.some.injEq] at el; subst el
      simp [Instr.sliceBounds, eB]
    | some a =>
      obtain ⟨v, rfl, hv⟩ := hlo
      obtain ⟨k, rfl⟩ := nat?_some hv el
      simp [Instr.sliceBounds, eL, eB]

theorem ti_size {t : TypeId} {i : TI} (h : C.ti t = some i) (w : World) : (sizeOf t).run C.P w = .ok i.size w := by
  obtain ⟨x, _, h1, h2, _⟩ := ti_info h
  rw [run_sizeOf h1, h2]

/-- A slice's nonempty piece. -/
theorem relP_piece {s : List PV} {A : Option Addr} {c l h size : Nat} (hr : RelP w G (.sl s) (.slice A s.length c)) (hs : fits size s = true) (h1 : l ≤ h) (h2 : h ≤ s.length) :
    RelP w G (.sl ((s.take h).drop l)) (.slice (if c = l then A else A.map (·.add (l * size))) (h - l) (c - l)) := by
  have hlen : ((s.take h).drop l).length = h - l := by simp; omega
  simp only [RelP] at hr ⊢
  obtain ⟨A', c', e, hc, hr⟩ := hr
  simp only [Value.slice.injEq] at e
  obtain ⟨rfl, _, rfl⟩ := e
  refine ⟨_, _, by rw [hlen], by omega, ?_⟩
  rcases Nat.eq_or_lt_of_le h1 with rfl | hlt
  · exact .inl (List.eq_nil_of_length_eq_zero (by omega))
  · rcases hr with rfl | ⟨b, off, k, us, rfl, hr, hk, hcell, hG⟩
    · simp at h2; omega
    · have hk2 : k = size := by
        have hl := RelPs_length hr
        cases us with
        | nil => rw [List.length_nil] at hl; omega
        | cons u us =>
          cases s with
          | nil => rw [List.length_nil] at hl; simp at hl
          | cons p s =>
            simp only [RelPs] at hr
            obtain ⟨v, r, e, hp, _⟩ := hr
            simp only [List.cons.injEq] at e
            obtain ⟨rfl, rfl⟩ := e
            have h3 := RelPs_length (RelP_cells hp).1
            have h4 := hk u (by simp)
            have h5 : p.cells.length = size := by simpa [fits] using hs
            rw [Array.length_toList] at h3
            exact (h4.symm.trans h3.symm).trans h5
      subst hk2
      have hcl : ¬ c = l := by omega
      refine .inr ⟨b, off + l * k, k, (us.take h).drop l, ?_, RelPs_drop l (RelPs_take h hr), fun u hu => hk u (List.mem_of_mem_take (List.mem_of_mem_drop hu)), ?_, ?_⟩
      · simp [hcl, add_at]
      · rw [flat_drop (fun u hu => hk u (List.mem_of_mem_take hu)), flat_take hk]
        exact cellsAt_drop (cellsAt_take hcell _) _
      · rw [flat_drop (fun u hu => hk u (List.mem_of_mem_take hu)), flat_take hk]
        rw [flat_length hk] at hG
        have hl := RelPs_length hr
        simp only [List.length_drop, List.length_take, flat_length hk]
        have : h * k ≤ us.length * k := Nat.mul_le_mul_right _ (by omega)
        have : l * k ≤ h * k := Nat.mul_le_mul_right _ h1
        omega

theorem toArray_extract (s : List UInt8) (l h : Nat) : (⟨s.toArray⟩ : ByteArray).extract l h = ⟨((s.take h).drop l).toArray⟩ := by
  apply ByteArray.ext
  apply Array.ext'
  rw [ByteArray.data_extract]
  simp [List.extract_eq_take_drop, List.drop_take]

theorem yields_aslice {t : TypeId} {x r : AV} {lo hi : Option AV} {vx : Value} {vlo vhi : Option Value} (hx : RelA C w G ρ x vx) (hlo : RelO C w G ρ lo vlo) (hhi : RelO C w G ρ hi vhi)
    (h : aslice C t x lo hi = some r) : Yields C w G ρ (Instr.sliceAt t vx vlo vhi none) r := by
  unfold aslice at h
  split at h
  · rename_i s hk
    split at h
    · rename_i hh ll eh el
      split at h
      · rename_i hb
        simp only [Option.some.injEq] at h
        subst h
        rw [relA_str hx]
        have hu := kOf_str (P := C.P) (t := t) (tk_kOf hk)
        refine ⟨rfl, .string ⟨((s.take hh).drop ll).toArray⟩, ?_, by simp [RelA, RelP]⟩
        have hsz : (⟨s.toArray⟩ : ByteArray).size = s.length := by simp [ByteArray.size]
        simp only [Instr.sliceAt, Sem.run_bind, run_underlying hu, Result.andThen_ok, Instr.slice, Option.isSome_none, Bool.false_eq_true, if_false]
        rw [hsz, run_sliceBounds false s.length s.length ll hh (Nat.le_refl _) hlo hhi eh el hb.1 hb.2]
        simp only [Result.andThen_ok, Sem.run_pure, toArray_extract]
      · cases h
    · cases h
  · rename_i e s hk
    split at h
    · rename_i ei hh ll hei eh el
      split at h
      · rename_i hb
        simp only [Option.some.injEq] at h
        subst h
        have hu := kOf_slice (P := C.P) (t := t) (e := e) (tk_kOf hk)
        simp only [RelA] at hx
        have hx' := hx
        simp only [RelP] at hx'
        obtain ⟨A, c, rfl, hc, _⟩ := hx'
        refine ⟨rfl, _, ?_, by simp only [RelA]; exact relP_piece hx hb.1 hb.2.1 hb.2.2⟩
        simp only [Instr.sliceAt, Sem.run_bind, run_underlying hu, Result.andThen_ok, Instr.slice, run_sliceBounds true s.length c ll hh hc hlo hhi eh el hb.2.1 hb.2.2, ti_size hei, Sem.run_pure]
      · cases h
    · cases h
  · cases h

theorem fields_get {t : TypeId} {l : List (Nat × TypeId)} (h : C.tk t = some (.struct l)) {f : Nat} {off : Nat} {ft : TypeId} (hf : l[f]? = some (off, ft)) :
    ∃ fs fd, C.P.underlying t = some (.struct fs) ∧ fs[f]? = some fd ∧ fd.offset = off ∧ fd.type = ft := by
  obtain ⟨fs, hu, rfl⟩ := kOf_struct (P := C.P) (t := t) (tk_kOf h)
  rw [List.getElem?_map] at hf
  obtain ⟨fd, h1, h2⟩ := Option.map_eq_some_iff.1 hf
  simp only [Prod.mk.injEq] at h2
  exact ⟨fs, fd, hu, by simpa using h1, h2.1, h2.2⟩

theorem view_drop {cs : List PV} {v : Value} (hx : RelA C w G ρ (.view cs) v) {n : Nat} (hn : n ≤ cs.length) : ∃ b off, v = .pointer (some ⟨b, off, none⟩) ∧ RelA C w G ρ (.view (cs.drop n)) (.pointer (some ⟨b, off + n, none⟩)) := by
  simp only [RelA] at hx
  obtain ⟨b, off, vs, rfl, h1, h2, h3, h4⟩ := hx
  have hl := RelPs_length h1
  refine ⟨b, off, rfl, ?_⟩
  simp only [RelA]
  exact ⟨b, off + n, vs.drop n, rfl, RelPs_drop n h1, fun c hc => h2 c (List.mem_of_mem_drop hc), cellsAt_drop h3 n, by simp; omega⟩

theorem yields_afieldAddr {t : TypeId} {x r : AV} {f : Nat} {vx : Value} (hx : RelA C w G ρ x vx) (h : afieldAddr C t x f = some r) : Yields C w G ρ (Instr.fieldAt t vx f) r := by
  unfold afieldAddr at h
  split at h
  · rename_i fs hk
    split at h
    · rename_i off ft hf
      split at h
      · rename_i i hi
        split at h
        · cases h
        · rename_i hsz
          obtain ⟨fl, fd, hu, hfd, rfl, rfl⟩ := fields_get hk hf
          have hplace : ∀ (a : Addr), (fieldPlace a fd).run C.P w = .ok (a.add fd.offset) w := by
            intro a
            simp only [fieldPlace, Sem.run_bind, ti_size hi, Result.andThen_ok, Sem.run_ite, if_neg hsz, Sem.run_pure]
          split at h
          · simp only [Option.some.injEq] at h
            subst h
            simp only [RelA] at hx
            obtain ⟨b, hb, rfl⟩ := hx
            refine ⟨rfl, _, ?_, by simp only [RelA]; exact ⟨b, hb, rfl⟩⟩
            simp only [Instr.fieldAt, Sem.run_bind, run_underlying hu, Result.andThen_ok, hfd, Instr.sureAddr, Sem.run_pure, hplace, add_at]
          · split at h
            · rename_i cs hle
              simp only [Option.some.injEq] at h
              subst h
              obtain ⟨b, o, rfl, hr⟩ := view_drop hx hle
              refine ⟨rfl, _, ?_, hr⟩
              simp only [Instr.fieldAt, Sem.run_bind, run_underlying hu, Result.andThen_ok, hfd, Instr.sureAddr, Sem.run_pure, hplace, add_at]
            · cases h
          · cases h
      · cases h
    · cases h
  · cases h

theorem relAs_piece {cs : List AV} {vs : List Value} (h : RelAs C w G ρ cs vs) {i : TI} {off : Nat} {r : AV} (h1 : ∀ c ∈ vs, c.oneCell' = true) (ho : i.k.isAgg = false → i.size = 1) (hp : part i cs off = some r) :
    off + i.size ≤ vs.length ∧ r.lent = true ∧ RelA C w G ρ r (valOf i.k ((vs.drop off).take i.size)) := by
  have hl := RelAs_length h
  unfold part at hp
  cases hk : i.k.isAgg with
  | true =>
    simp only [hk, if_true] at hp
    split at hp
    · rename_i hle
      simp only [Option.some.injEq] at hp
      subst hp
      refine ⟨by omega, rfl, ?_⟩
      simp only [valOf, hk, if_true, RelA]
      exact ⟨_, rfl, fun c hc => h1 c (List.mem_of_mem_drop (List.mem_of_mem_take hc)), RelAs_take _ (RelAs_drop _ h)⟩
    · cases hp
  | false =>
    simp only [hk, Bool.false_eq_true, if_false] at hp
    have hs := ho hk
    have hg : cs[off]? = some r := by rw [← List.head?_drop]; exact hp
    obtain ⟨v, hv, hlent, hr⟩ := RelAs_get h hg
    have hlt := (List.getElem?_eq_some_iff.1 hv).1
    refine ⟨by omega, hlent, ?_⟩
    have e : (vs.drop off).take 1 = [vs[off]] := by rw [List.drop_eq_getElem_cons hlt]; rfl
    have e2 : vs[off] = v := (List.getElem?_eq_some_iff.1 hv).2
    simp only [valOf, hk, Bool.false_eq_true, if_false, hs, e, List.headD_cons, e2]
    exact hr

theorem yields_afield {t : TypeId} {x r : AV} {f : Nat} {vx : Value} (hx : RelA C w G ρ x vx) (h : afield C t x f = some r) : Yields C w G ρ (Instr.field t vx f) r := by
  unfold afield at h
  split at h
  · rename_i fs cs hk
    split at h
    · rename_i off ft hf
      split at h
      · rename_i i hi
        obtain ⟨fl, fd, hu, hfd, rfl, rfl⟩ := fields_get hk hf
        simp only [RelA] at hx
        obtain ⟨vs, rfl, h1, hx⟩ := hx
        obtain ⟨hle, hlent, hr⟩ := relAs_piece hx h1 (fun hk => ti_one hi hk) h
        obtain ⟨d, hd⟩ := ti_under hi
        refine ⟨hlent, _, ?_, hr⟩
        simp only [Instr.field, Sem.run_bind, run_underlying hu, Result.andThen_ok, hfd, asAgg, Sem.run_pure, run_part hi hd vs fd.offset hle]
      · cases h
    · cases h
  · cases h

theorem run_index_ok (n len : Nat) (h : n < len) : (0 ≤ (n : Int) ∧ (n : Int) < (len : Int)) := by omega

theorem relP_elem {l : List PV} {v : Value} (hx : RelP w G (.sl l) v) {n : Nat} {p : PV} (hp : l[n]? = some p) {size : Nat} (hs : p.cells.length = size) :
    ∃ b off c, v = .slice (some ⟨b, off, none⟩) l.length c ∧ RelA C w G ρ (.view p.cells) (.pointer (some ⟨b, off + n * size, none⟩)) := by
  have hn : n < l.length := (List.getElem?_eq_some_iff.1 hp).1
  simp only [RelP] at hx
  obtain ⟨A, c, rfl, _, rfl | ⟨b, off, k, us, rfl, hr, hk, hcell, hG⟩⟩ := hx
  · simp at hn
  · refine ⟨b, off, c, rfl, ?_⟩
    obtain ⟨u, hu, hrel⟩ := RelPs_get hr hp
    obtain ⟨h1, h2⟩ := RelP_cells hrel
    have hlen := RelPs_length h1
    have hku := hk u (List.mem_of_getElem? hu)
    rw [Array.length_toList] at hlen
    have hks : k = size := hku.symm.trans (hlen.symm.trans hs)
    subst hks
    have hul : n < us.length := (List.getElem?_eq_some_iff.1 hu).1
    have hdrop : flat (us.drop n) = u.cells.toList ++ flat (us.drop (n + 1)) := by
      rw [List.drop_eq_getElem_cons hul, (List.getElem?_eq_some_iff.1 hu).2]; rfl
    have hc2 := cellsAt_drop hcell (n * k)
    rw [← flat_drop hk, hdrop] at hc2
    simp only [RelA]
    refine ⟨b, off + n * k, u.cells.toList, rfl, h1, h2, (cellsAt_append hc2).1, ?_⟩
    have hfl := flat_length hk
    have : (n + 1) * k ≤ us.length * k := Nat.mul_le_mul_right _ hul
    rw [Nat.add_mul] at this
    rw [Array.length_toList]
    omega

theorem yields_aindexAddr {t : TypeId} {x i r : AV} {vx vi : Value} (hx : RelA C w G ρ x vx) (hi : RelA C w G ρ i vi) (h : aindexAddr C t x i = some r) : Yields C w G ρ (Instr.indexAt t vx vi) r := by
  unfold aindexAddr at h
  split at h
  · rename_i e l n hk hn
    obtain ⟨k, rfl⟩ := nat?_some hi hn
    split at h
    · rename_i ei p hei hp
      split at h
      · rename_i hs
        simp only [Option.some.injEq] at h
        subst h
        have hu := kOf_slice (tk_kOf hk)
        simp only [RelA] at hx
        obtain ⟨b, off, c, rfl, hr⟩ := relP_elem (C := C) (ρ := ρ) hx hp hs
        have hlt : n < l.length := (List.getElem?_eq_some_iff.1 hp).1
        refine ⟨rfl, _, ?_, hr⟩
        simp only [Instr.indexAt, asIntOf, Sem.run_bind, Sem.run_pure, Result.andThen_ok, run_underlying hu, run_index_ok n l.length hlt, and_self, if_true, ti_size hei, Int.toNat_natCast, add_at]
      · cases h
    · cases h
  · rename_i m e o off n hk hn
    obtain ⟨k, rfl⟩ := nat?_some hi hn
    split at h
    · rename_i ei hei
      split at h
      · rename_i hlt
        simp only [Option.some.injEq] at h
        subst h
        have hu := kOf_array (tk_kOf hk)
        simp only [RelA] at hx
        obtain ⟨b, hb, rfl⟩ := hx
        refine ⟨rfl, _, ?_, by simp only [RelA]; exact ⟨b, hb, rfl⟩⟩
        simp only [Instr.indexAt, asIntOf, Instr.sureAddr, Sem.run_bind, Sem.run_pure, Result.andThen_ok, run_underlying hu, run_index_ok n m hlt, and_self, if_true, ti_size hei, Int.toNat_natCast, add_at]
      · cases h
    · cases h
  · rename_i m e cs n hk hn
    obtain ⟨k, rfl⟩ := nat?_some hi hn
    split at h
    · rename_i ei hei
      split at h
      · rename_i hlt
        simp only [Option.some.injEq] at h
        subst h
        have hu := kOf_array (tk_kOf hk)
        obtain ⟨b, o, rfl, hr⟩ := view_drop hx hlt.2
        refine ⟨rfl, _, ?_, hr⟩
        simp only [Instr.indexAt, asIntOf, Instr.sureAddr, Sem.run_bind, Sem.run_pure, Result.andThen_ok, run_underlying hu, run_index_ok n m hlt.1, and_self, if_true, ti_size hei, Int.toNat_natCast, add_at]
      · cases h
    · cases h
  · cases h

theorem yields_aindex {t : TypeId} {x i r : AV} {vx vi : Value} (hx : RelA C w G ρ x vx) (hi : RelA C w G ρ i vi) (h : aindex C t x i = some r) : Yields C w G ρ (Instr.index t vx vi) r := by
  unfold aindex at h
  split at h
  · rename_i s n hk hn
    obtain ⟨k, rfl⟩ := nat?_some hi hn
    split at h
    · rename_i b hb
      simp only [pint, Option.some.injEq] at h
      subst h
      have hu := kOf_str (tk_kOf hk)
      rw [relA_str hx]
      refine ⟨rfl, .int .u8 b.toNat, ?_, by simp [RelA, RelP]⟩
      have hlt : n < s.length := (List.getElem?_eq_some_iff.1 hb).1
      have e : (⟨s.toArray⟩ : ByteArray)[n]? = some b := by
        have hb1 : n < (⟨s.toArray⟩ : ByteArray).size := by simpa [ByteArray.size] using hlt
        rw [getElem?_pos (⟨s.toArray⟩ : ByteArray) n hb1]
        have hb2 := (List.getElem?_eq_some_iff.1 hb).2
        simpa [ByteArray.getElem_eq_getElem_data] using hb2
      simp only [Instr.index, asIntOf, Sem.run_bind, Sem.run_pure, Result.andThen_ok, run_underlying hu]
      simp [e]
    · cases h
  · rename_i m e cs n hk hn
    obtain ⟨k, rfl⟩ := nat?_some hi hn
    split at h
    · rename_i ei hei
      split at h
      · rename_i hlt
        have hu := kOf_array (tk_kOf hk)
        simp only [RelA] at hx
        obtain ⟨vs, rfl, h1, hx⟩ := hx
        obtain ⟨hle, hlent, hr⟩ := relAs_piece hx h1 (fun hk => ti_one hei hk) h
        obtain ⟨d, hd⟩ := ti_under hei
        refine ⟨hlent, _, ?_, hr⟩
        simp only [Instr.index, asIntOf, Sem.run_bind, Sem.run_pure, Result.andThen_ok, run_underlying hu, run_index_ok n m hlt, and_self, if_true, ti_size hei, Int.toNat_natCast, run_part hei hd vs _ hle]
      · cases h
    · cases h
  · cases h

theorem yields_aextract {x r : AV} {i : Nat} {vx : Value} (hx : RelA C w G ρ x vx) (h : aextract x i = some r) : Yields C w G ρ (Instr.extract vx i) r := by
  unfold aextract at h
  split at h
  · rename_i cs
    simp only [RelA] at hx
    obtain ⟨vs, rfl, hx⟩ := hx
    obtain ⟨v, hv, hl, hr⟩ := RelAs_get hx h
    refine ⟨hl, v, ?_, hr⟩
    simp [Instr.extract, hv]
  · cases h

/-! ### Reading memory -/
theorem take_one {α : Type} {vs : List α} (h : 0 < vs.length) : vs.take 1 = [vs[0]] := by
  cases vs with
  | nil => simp at h
  | cons v r => rfl

theorem run_loadVar {t : TypeId} {i : TI} (hi : C.ti t = some i) {b off : Nat} {vs : List Value} (hc : cellsAt w b off vs) (hl : i.size ≤ vs.length) :
    (loadVar t ⟨b, off, none⟩).run C.P w = .ok (valOf i.k (vs.take i.size)) w := by
  obtain ⟨d, hd⟩ := ti_under hi
  simp only [loadVar, Sem.run_bind, run_isAgg' hd, Result.andThen_ok, Sem.run_ite, ti_size hi, ← ti_k hi]
  cases hk : i.k.isAgg with
  | true =>
    simp only [if_true]
    have := run_loadCells_list (P := C.P) w ⟨b, off, none⟩ (vs.take i.size) (fun j v hj => by rw [add_at]; exact cellsAt_take hc _ j v hj)
    rw [List.length_take, Nat.min_eq_left hl] at this
    simp only [this, Result.andThen_ok, Sem.run_pure, valOf, hk, if_true]
  | false =>
    have hs := ti_one hi hk
    rw [hs] at hl
    have hlt : 0 < vs.length := by omega
    have h0 := hc 0 vs[0] (by simp [hlt])
    have e : vs.take 1 = [vs[0]] := take_one hlt
    simp only [Bool.false_eq_true, if_false, run_load, Nat.add_zero] at h0 ⊢
    simp only [h0, valOf, hk, Bool.false_eq_true, if_false, hs, e, List.headD_cons]

theorem pick_sound {cs : List AV} {vs : List Value} {i : TI} {r : AV} (hl : cs.length = vs.length) (h : ∀ (j : Nat) (a : AV) (v : Value), cs[j]? = some a → vs[j]? = some v → RelA C w G ρ a v ∧ v.oneCell' = true)
    (ho : i.k.isAgg = false → i.size = 1) (hp : pick i cs = some r) : i.size ≤ vs.length ∧ r.lent = true ∧ RelA C w G ρ r (valOf i.k (vs.take i.size)) := by
  unfold pick at hp
  cases hk : i.k.isAgg with
  | true =>
    simp only [hk, if_true] at hp
    split at hp
    · rename_i hle
      simp only [Option.some.injEq] at hp
      subst hp
      refine ⟨by omega, rfl, ?_⟩
      simp only [valOf, hk, if_true, RelA]
      refine ⟨_, rfl, fun c hc => ?_, RelAs_of_get (by simp [hl]) (fun j a v ha hv => ?_)⟩
      · obtain ⟨j, hj⟩ := List.mem_iff_getElem?.1 hc
        rw [List.getElem?_take] at hj
        split at hj
        · have hlt : j < cs.length := by rw [hl]; exact (List.getElem?_eq_some_iff.1 hj).1
          exact (h j cs[j] c (by simp [hlt]) hj).2
        · cases hj
      · rw [List.getElem?_map, List.getElem?_take] at ha
        rw [List.getElem?_take] at hv
        split at hv
        · rename_i hlt
          rw [if_pos hlt] at ha
          obtain ⟨a', ha', rfl⟩ := Option.map_eq_some_iff.1 ha
          exact ⟨lent_downN _, RelA_downN (h j a' v ha' hv).1⟩
        · cases hv
    · cases hp
  | false =>
    simp only [hk, Bool.false_eq_true, if_false] at hp
    have hs := ho hk
    obtain ⟨a, ha, rfl⟩ := Option.map_eq_some_iff.1 hp
    rw [List.head?_eq_getElem?] at ha
    have hlt : 0 < vs.length := by rw [← hl]; exact (List.getElem?_eq_some_iff.1 ha).1
    refine ⟨by omega, lent_downN _, ?_⟩
    have e : vs.take 1 = [vs[0]] := take_one hlt
    simp only [valOf, hk, Bool.false_eq_true, if_false, hs, e, List.headD_cons]
    exact RelA_downN (h 0 a vs[0] ha (by simp [hlt])).1

theorem cell_of_block {b : Nat} {us : List Value} {ty : TypeId} {fr : Nat × Nat} (h : w.heap[b]? = some (.cells us.toArray ty fr)) (j : Nat) : w.cell? ⟨b, j, none⟩ = us[j]? := by
  simp [World.cell?, h]

/-- A variable's cells, from one on. -/
theorem obj_cells {h : H} (M : MemOk C w G ρ h) {o b : Nat} {cs : List AV} (hc : h[o]? = some cs) (hb : ρ[o]? = some b) (off : Nat) :
    ∃ (us : List Value) (ty : TypeId), w.heap[b]? = some (.cells us.toArray ty (0, 0)) ∧ cs.length = us.length ∧ cellsAt w b off (us.drop off) ∧ (cs.drop off).length = (us.drop off).length ∧
      ∀ (j : Nat) (a : AV) (v : Value), (cs.drop off)[j]? = some a → (us.drop off)[j]? = some v → RelA C w G ρ a v ∧ v.oneCell' = true := by
  obtain ⟨us, ty, h1, h2, h3⟩ := M.obj o cs b hc hb
  refine ⟨us, ty, h1, h2, ?_, by simp [h2], fun j a v ha hv => h3 (off + j) a v (by simpa using ha) (by simpa using hv)⟩
  intro j v hj
  rw [List.getElem?_drop] at hj
  rw [cell_of_block h1]; exact hj

theorem yields_aload {h : H} (M : MemOk C w G ρ h) {t : TypeId} {x r : AV} {vx : Value} (hx : RelA C w G ρ x vx) (hl : aload C h t x = some r) : Yields C w G ρ (Instr.loadAt t vx) r := by
  unfold aload at hl
  split at hl
  · rename_i i o off hi
    split at hl
    · rename_i cs hcs
      simp only [RelA] at hx
      obtain ⟨b, hb, rfl⟩ := hx
      obtain ⟨us, ty, _, _, h1, h2, h3⟩ := obj_cells M hcs hb off
      obtain ⟨hle, hlent, hr⟩ := pick_sound h2 h3 (fun hk => ti_one hi hk) hl
      refine ⟨hlent, _, ?_, hr⟩
      simp only [Instr.loadAt, Instr.sureAddr, Sem.run_bind, Sem.run_pure, Result.andThen_ok, run_loadVar hi h1 hle]
    · cases hl
  · rename_i i cs hi
    simp only [RelA] at hx
    obtain ⟨b, off, vs, rfl, h1, h2, h3, h4⟩ := hx
    have hlen := RelPs_length h1
    obtain ⟨hle, hlent, hr⟩ := pick_sound (C := C) (ρ := ρ) (cs := cs.map .pv) (vs := vs) (by simp [hlen]) (fun j a v ha hv => by
      rw [List.getElem?_map] at ha
      obtain ⟨p, hp, rfl⟩ := Option.map_eq_some_iff.1 ha
      obtain ⟨v', hv', hr⟩ := RelPs_get h1 hp
      rw [hv] at hv'; cases hv'
      exact ⟨by simpa only [RelA] using hr, h2 v (List.mem_of_getElem? hv)⟩) (fun hk => ti_one hi hk) hl
    refine ⟨hlent, _, ?_, hr⟩
    simp only [Instr.loadAt, Instr.sureAddr, Sem.run_bind, Sem.run_pure, Result.andThen_ok, run_loadVar hi h3 hle]
  · cases hl

end
end Go.AM
