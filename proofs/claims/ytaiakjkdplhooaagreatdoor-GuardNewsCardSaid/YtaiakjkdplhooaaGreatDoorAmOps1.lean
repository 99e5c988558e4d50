/- The operations that only reckon: what the abstract machine answers, the model answers. -/
import Derived.Test.YtaiakjkdplhooaaGreatDoorAmInv
import Derived.ChangeKeysEq
import Derived.Laws.Strings
namespace Go.AM
open Go

theorem ti_info {C : Ctx} {t : TypeId} {i : TI} (h : C.ti t = some i) :
    ∃ x z, C.P.info? t = some x ∧ x.size = i.size ∧ x.bytes = i.bytes ∧ x.zero = some z ∧ zeroFits i.k i.size z = true ∧ i.zero = z.cells.toList.map cst ∧ i.k = kOf C.P t ∧ i.k.known = true := by
  unfold Ctx.ti tiOf at h
  split at h
  · rename_i x hx
    split at h
    · rename_i z hz
      split at h
      · rename_i hf
        cases h
        simp only [Bool.and_eq_true] at hf
        exact ⟨x, z, hx, rfl, rfl, hz, hf.2, rfl, rfl, hf.1⟩
      · cases h
    · cases h
  · cases h

theorem kOf_int {P : Program} {t : TypeId} {k : IntKind} (h : kOf P t = .int k) : P.underlying t = some (.int k) := by
  unfold kOf at h; split at h <;> simp_all
theorem kOf_bool {P : Program} {t : TypeId} (h : kOf P t = .bool) : P.underlying t = some .bool := by
  unfold kOf at h; split at h <;> simp_all
theorem kOf_str {P : Program} {t : TypeId} (h : kOf P t = .str) : P.underlying t = some .string := by
  unfold kOf at h; split at h <;> simp_all
theorem kOf_slice {P : Program} {t e : TypeId} (h : kOf P t = .slice e) : P.underlying t = some (.slice e) := by
  unfold kOf at h; split at h <;> simp_all
theorem kOf_array {P : Program} {t e : TypeId} {n : Nat} (h : kOf P t = .array n e) : P.underlying t = some (.array n e) := by
  unfold kOf at h; split at h <;> simp_all
theorem kOf_struct {P : Program} {t : TypeId} {l : List (Nat × TypeId)} (h : kOf P t = .struct l) : ∃ fs, P.underlying t = some (.struct fs) ∧ l = fs.toList.map fun f => (f.offset, f.type) := by
  unfold kOf at h; split at h <;> simp_all
theorem kOf_ptr {P : Program} {t : TypeId} (h : kOf P t = .ptr) : ∃ e, P.underlying t = some (.pointer e) := by
  unfold kOf at h; split at h <;> simp_all
theorem kOf_func {P : Program} {t : TypeId} (h : kOf P t = .func) : ∃ a b c, P.underlying t = some (.func a b c) := by
  unfold kOf at h; split at h <;> simp_all
theorem kOf_iface {P : Program} {t : TypeId} (h : kOf P t = .iface) : ∃ a, P.underlying t = some (.interface a) := by
  unfold kOf at h; split at h <;> simp_all

theorem run_sizeOf {P : Program} {t : TypeId} {x : TypeInfo} (h : P.info? t = some x) (w : World) : (sizeOf t).run P w = .ok x.size w := by
  simp [sizeOf, run_typeInfo w h]

/-! ### Constants and operands -/
theorem bytes_eta (s : ByteArray) : (⟨s.data.toList.toArray⟩ : ByteArray) = s := by cases s; simp

theorem rel_cst (C : Ctx) (w : World) (G : Nat → Nat) (ρ : List Nat) (v : Value) : (cst v).lent = true ∧ RelA C w G ρ (cst v) v := by
  cases v with
  | int k n => simp [cst, AV.lent, RelA, RelP]
  | bool b => simp [cst, AV.lent, RelA, RelP]
  | string s => simp [cst, AV.lent, RelA, RelP]
  | pointer a => cases a <;> simp [cst, AV.lent, RelA]
  | slice a n c =>
    cases a with
    | none =>
      simp only [cst]
      split
      · rename_i h; obtain ⟨rfl, rfl⟩ := h; simp [AV.lent, RelA]
      · simp [AV.lent, RelA]
    | some a => simp [cst, AV.lent, RelA]
  | func f a b =>
    cases f with
    | func f =>
      simp only [cst]
      split
      · rename_i h
        obtain ⟨h1, h2⟩ := h
        have h1 := Array.eq_empty_of_size_eq_zero h1
        have h2 := Array.eq_empty_of_size_eq_zero h2
        subst h1; subst h2
        simp only [AV.lent, RelA, RelAs, true_and]
        exact ⟨[], rfl, rfl⟩
      · simp [AV.lent, RelA]
    | _ => simp [cst, AV.lent, RelA]
  | nilFunc => simp [cst, AV.lent, RelA]
  | nilIface => simp [cst, AV.lent, RelA]
  | _ => simp [cst, AV.lent, RelA]

theorem rel_aval {C : Ctx} {w : World} {G : Nat → Nat} {ρ : List Nat} {t : List AV} {h : H} {a : Act} (I : Inv C w G ρ t a.tmps.toList h) (x : Operand) :
    RelA C w G ρ (aval C t x) (a.eval x) := by
  cases x with
  | tmp i =>
    simp only [aval, Act.eval]
    rw [List.getD_eq_getElem?_getD]
    cases ht : t[i]? with
    | none => simp [RelA]
    | some y =>
      have hl : i < a.tmps.size := by
        have h1 : i < t.length := (List.getElem?_eq_some_iff.1 ht).1
        exact Nat.lt_of_lt_of_eq h1 (I.len.trans Array.length_toList)
      have hv : a.tmps.toList[i]? = some a.tmps[i] := by simp [hl]
      have := I.rel i y _ ht hv
      simpa [Array.getD, hl] using this
  | const v => exact (rel_cst C w G ρ v).2
  | global g => exact (I.glob g).2
  | func f => simp only [aval, Act.eval, RelA, RelAs]; exact ⟨[], rfl, rfl⟩

theorem rel_see {C : Ctx} {w : World} {G : Nat → Nat} {ρ : List Nat} {t : List AV} {h : H} {a : Act} (I : Inv C w G ρ t a.tmps.toList h) (x : Operand) :
    RelA C w G ρ (see C t x) (a.eval x) := RelA_down (rel_aval I x)

theorem lent_see (C : Ctx) (t : List AV) (x : Operand) : (see C t x).lent = true := lent_down _

/-! ### Numbers, bools, texts -/
section
variable {C : Ctx} {w : World} {G : Nat → Nat} {ρ : List Nat}

theorem relA_int {k : IntKind} {n : Int} {v : Value} (h : RelA C w G ρ (.pv (.int k n)) v) : v = .int k n := by simpa [RelA, RelP] using h
theorem relA_bool {b : Bool} {v : Value} (h : RelA C w G ρ (.pv (.bool b)) v) : v = .bool b := by simpa [RelA, RelP] using h
theorem relA_str {s : List UInt8} {v : Value} (h : RelA C w G ρ (.pv (.str s)) v) : v = .string ⟨s.toArray⟩ := by simpa [RelA, RelP] using h

/-- The answer is a value that stands so, and the world is as it was. -/
def Yields (C : Ctx) (w : World) (G : Nat → Nat) (ρ : List Nat) (s : Sem Value) (r : AV) : Prop :=
  r.lent = true ∧ ∃ v, s.run C.P w = .ok v w ∧ RelA C w G ρ r v

theorem yields_pure {r : AV} {v : Value} (hl : r.lent = true) (h : RelA C w G ρ r v) : Yields C w G ρ (pure v) r := ⟨hl, v, rfl, h⟩

theorem yields_int (k : IntKind) (n : Int) : Yields C w G ρ (pure (.int k n)) (.pv (.int k n)) := yields_pure rfl (by simp [RelA, RelP])
theorem yields_bool (b : Bool) : Yields C w G ρ (pure (.bool b)) (.pv (.bool b)) := yields_pure rfl (by simp [RelA, RelP])


theorem yields_abinInt {op : BinOp} {k : IntKind} {x y : Int} {r : AV} (h : abinInt op k x y = some r) (t : TypeId) : Yields C w G ρ (binOp op t (.int k x) (.int k y)) r := by
  cases op <;> simp only [abinInt, pint, pb, Option.some.injEq, reduceCtorEq, ltI_eq, leI_eq] at h
  case add => subst h; exact ⟨rfl, _, by simp [binOp, Op.intArith]; rfl, by simp [RelA, RelP]⟩
  case sub => subst h; exact ⟨rfl, _, by simp [binOp, Op.intArith]; rfl, by simp [RelA, RelP]⟩
  case mul => subst h; exact ⟨rfl, _, by simp [binOp, Op.intArith]; rfl, by simp [RelA, RelP]⟩
  case quo =>
    split at h
    · cases h
    · rename_i hy
      simp only [Option.some.injEq] at h
      subst h
      refine ⟨rfl, .int k (k.wrap (x.tdiv y)), ?_, by simp [RelA, RelP]⟩
      simp [binOp, Op.intDiv, hy]
  case rem =>
    split at h
    · cases h
    · rename_i hy
      simp only [Option.some.injEq] at h
      subst h
      refine ⟨rfl, .int k (x.tmod y), ?_, by simp [RelA, RelP]⟩
      simp [binOp, Op.intDiv, hy]
  case and => subst h; exact ⟨rfl, _, by simp [binOp, Op.intBits]; rfl, by simp [RelA, RelP, bitsI]⟩
  case or => subst h; exact ⟨rfl, _, by simp [binOp, Op.intBits]; rfl, by simp [RelA, RelP, bitsI]⟩
  case xor => subst h; exact ⟨rfl, _, by simp [binOp, Op.intBits]; rfl, by simp [RelA, RelP, bitsI]⟩
  case andNot => subst h; exact ⟨rfl, _, by simp [binOp, Op.intBits]; rfl, by simp [RelA, RelP, bitsI]⟩
  case eql => subst h; exact ⟨rfl, _, by simp [binOp, Op.intCmp]; rfl, by simp [RelA, RelP]; rfl⟩
  case neq => subst h; exact ⟨rfl, _, by simp [binOp, Op.intCmp]; rfl, by simp [RelA, RelP, bne]; rfl⟩
  case lss => subst h; exact ⟨rfl, _, by simp [binOp, Op.intCmp]; rfl, by simp [RelA, RelP]⟩
  case leq => subst h; exact ⟨rfl, _, by simp [binOp, Op.intCmp]; rfl, by simp [RelA, RelP]⟩
  case gtr => subst h; exact ⟨rfl, _, by simp [binOp, Op.intCmp]; rfl, by simp [RelA, RelP]⟩
  case geq => subst h; exact ⟨rfl, _, by simp [binOp, Op.intCmp]; rfl, by simp [RelA, RelP]⟩

theorem yields_abinStr {op : BinOp} {x y : List UInt8} {r : AV} (h : abinStr op x y = some r) (t : TypeId) : Yields C w G ρ (binOp op t (.string ⟨x.toArray⟩) (.string ⟨y.toArray⟩)) r := by
  cases op <;> simp only [abinStr, pb, Option.some.injEq, reduceCtorEq] at h
  case add =>
    split at h
    · rename_i hl
      simp only [Option.some.injEq] at h
      subst h
      refine ⟨rfl, .string (⟨x.toArray⟩ ++ ⟨y.toArray⟩), ?_, ?_⟩
      · have : ¬ (((⟨x.toArray⟩ : ByteArray).size + (⟨y.toArray⟩ : ByteArray).size : Nat) : Int) > IntKind.i64.max := by
          simp [ByteArray.size, IntKind.max, IntKind.signed, IntKind.bits]
          try omega
        simp only [binOp, Op.stringOp, this, if_false]
        rfl
      · simp only [RelA, RelP]
        congr 1
    · cases h
  case eql => subst h; exact ⟨rfl, _, by simp [binOp, Op.stringOp]; rfl, by simp [RelA, RelP]⟩
  case neq => subst h; exact ⟨rfl, _, by simp [binOp, Op.stringOp]; rfl, by simp [RelA, RelP]⟩
  case lss => subst h; exact ⟨rfl, _, by simp [binOp, Op.stringOp]; rfl, by simp [RelA, RelP]⟩
  case leq => subst h; exact ⟨rfl, _, by simp [binOp, Op.stringOp]; rfl, by simp [RelA, RelP]⟩
  case gtr => subst h; exact ⟨rfl, _, by simp [binOp, Op.stringOp]; rfl, by simp [RelA, RelP]⟩
  case geq => subst h; exact ⟨rfl, _, by simp [binOp, Op.stringOp]; rfl, by simp [RelA, RelP]⟩

theorem yields_aun {op : UnOp} {x r : AV} {vx : Value} (hx : RelA C w G ρ x vx) (h : aun op x = some r) : Yields C w G ρ (Op.unary op vx) r := by
  unfold aun at h
  split at h <;> simp only [pb, pint, Option.some.injEq, reduceCtorEq] at h
  · subst h; rw [relA_bool hx]; exact yields_bool _
  · subst h; rw [relA_int hx]; exact yields_int _ _
  · subst h; rw [relA_int hx]; exact ⟨rfl, _, by simp [Op.unary, Op.intBits]; rfl, by simp [RelA, RelP, bitsI]⟩

end
end Go.AM
