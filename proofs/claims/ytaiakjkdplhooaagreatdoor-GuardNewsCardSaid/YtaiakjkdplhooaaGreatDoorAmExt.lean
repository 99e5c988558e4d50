/- Functions of the library that have no text: what they hand back. -/
import Derived.Test.YtaiakjkdplhooaaGreatDoorAmClone
import Derived.Lib.Bytealg
namespace Go.AM
open Go

/-- The first place of a byte, from a place on; -1: there is none. -/
def findByte (c : UInt8) : Nat → List UInt8 → Int
  | _, [] => -1
  | i, b :: r => if b == c then (i : Int) else findByte c (i + 1) r

theorem findByte_eq (c : UInt8) : ∀ (s : List UInt8) (i : Nat), findByte c i s = if Lib.indexByte s c = -1 then -1 else (i : Int) + Lib.indexByte s c
  | [], i => by simp [findByte, Lib.indexByte]
  | b :: r, i => by
    have hge := Lib.indexByte_ge r c
    simp only [findByte, Lib.indexByte]
    split
    · simp
    · rw [findByte_eq c r (i + 1)]
      by_cases h : Lib.indexByte r c = -1
      · simp [h]
      · have h' : (Lib.indexByte r c == -1) = false := by simpa using h
        rw [if_neg h]
        simp only [h', Bool.false_eq_true, if_false]
        rw [if_neg (by omega)]
        omega

def indexByteF : List AV → H → Option (AV × H)
  | [.pv (.str s), .pv (.int .u8 c)], h => some (.pv (.int .i64 (findByte c.toNat.toUInt8 0 s)), h)
  | _, _ => none

/-- A copy of a slice of elements of the type. -/
def cloneF (P : Program) (e : TypeId) : List AV → H → Option (AV × H)
  | [.pv (.sl l)], h => match tiOf P e with
    | some i => if 0 < i.size ∧ 0 < i.bytes ∧ fits i.size l = true ∧ l.length * i.bytes ≤ 2 ^ 46 then some (.own (some e) l, h) else none
    | none => none
  | _, _ => none

/-- .. that writes nothing. -/
def noL (e : List AV → H → Option (AV × H)) (av : List AV) (h : H) : Option (AV × H × List Nat) := (e av h).map fun r => (r.1, r.2, [])

section
variable {C : Ctx} {f : FuncId}

theorem noL_does {e : List AV → H → Option (AV × H)} (he : ∀ av h h' r, e av h = some (r, h') → FnDoes C f av h r h' ∧ h' = h) {av : List AV} {h h' : H} {r : AV} {L : List Nat} (hx : noL e av h = some (r, h', L)) :
    FnDoes C f av h r h' ∧ Keeps L h h' := by
  unfold noL at hx
  obtain ⟨⟨r1, h1⟩, hy, e1⟩ := Option.map_eq_some_iff.1 hx
  simp only [Prod.mk.injEq] at e1
  obtain ⟨rfl, rfl, rfl⟩ := e1
  obtain ⟨k1, rfl⟩ := he _ _ _ _ hy
  exact ⟨k1, Keeps.refl _ _⟩

theorem retPost_pure {w : World} {G : Nat → Nat} {ρ : List Nat} {av : List AV} {vs : List Value} {h : H} (I : Inv C w G ρ av vs h) {r : AV} {v : Value} (hr : RelA C w G ρ r v) (hl : r.lent = true) :
    RetPost C w G ρ (Touch w ρ av vs h) r h v w := by
  have key : ∀ x g, OwnsAt w ρ [r] [v] h x g → OwnsAt w ρ av vs h x g := by
    intro x g hx
    cases x with
    | t i =>
      obtain ⟨b, u, hb, hu, hg⟩ := hx
      cases i with
      | zero => simp at hb hu; subst hb hu; rw [ub_lent hl] at hg; cases hg
      | succ i => simp at hb
    | o p j => exact hx
  refine ⟨G, ρ, List.prefix_refl _, { I with len := rfl, rel := fun i b u hb hu => ?_, uniq := fun x y g hx hy => I.uniq x y g (key x g hx) (key y g hy), sep := fun x g hx => I.sep x g (key x g hx) },
    Tr.refl (fun b hb => hb.imp id (fun ⟨x, hx⟩ => ⟨x, key x b hx⟩))⟩
  cases i with
  | zero => simp at hb hu; subst hb hu; exact hr
  | succ i => simp at hb

theorem run_extern {P : Program} {fn : Func} {e : Array Value → Sem Value} (hf : P.funcs[f]? = some fn) (hng : (fn.name == "runtime.NumGoroutine") = false) (hb : fn.body = none)
    (hn : (Extern.findNext fn).isNone = true) (he : Extern.find fn = some e) {args : Array Value} {v : Value} {w : World} (hr : (e args).run P w = .ok v w) :
    (callFunc f args).run P w = .ok (.value v) w := by
  have hn' : Extern.findNext fn = none := by simpa using hn
  unfold callFunc
  have hp : (program : Sem Program).run P w = .ok P w := rfl
  rw [Sem.run_bind, hp]
  simp only [Result.andThen_ok, hf, hng, hb, Option.isNone_none, Bool.false_eq_true, if_false, if_true, hn', he, Sem.run_bind]
  have hm : (mark (.extern f) : Sem Unit).run P w = .ok () w := rfl
  simp only [hm, Result.andThen_ok, hr, Sem.run_pure]

theorem indexByte_does {fn : Func} (hf : C.P.funcs[f]? = some fn) (hng : (fn.name == "runtime.NumGoroutine") = false) (hb : fn.body = none) (hn : (Extern.findNext fn).isNone = true)
    (he : Extern.find fn = some Extern.BytealgIndexByte.indexByte) {av : List AV} {h h' : H} {r : AV} (ha : indexByteF av h = some (r, h')) : FnDoes C f av h r h' ∧ h' = h := by
  refine ⟨?_, by unfold indexByteF at ha; split at ha <;> simp at ha; exact ha.2.symm⟩
  intro w G ρ vs I
  unfold indexByteF at ha
  split at ha
  · rename_i s c
    simp only [Option.some.injEq, Prod.mk.injEq] at ha
    obtain ⟨rfl, rfl⟩ := ha
    have hlen := I.len
    match vs, hlen with
    | [v1, v2], _ =>
      have r1 := relA_str (I.rel 0 _ v1 rfl rfl)
      have r2 := relA_int (I.rel 1 _ v2 rfl rfl)
      subst r1 r2
      refine .inr ⟨.int .i64 (findByte c.toNat.toUInt8 0 s), w, ?_, retPost_pure I (by simp [RelA, RelP]) rfl⟩
      refine run_extern hf hng hb hn he ?_
      rw [Lib.run_indexByteString, findByte_eq]
      congr 2
      by_cases h : Lib.indexByte s c.toNat.toUInt8 = -1
      · simp [h]
      · simp [h]
  · cases ha

theorem cloneF_does (hC : CtxOk C) (hg : GlobOk C) {fn : Func} {t e : TypeId} (hf : C.P.funcs[f]? = some fn) (hb : fn.body = some (cloneCode t)) (hn : fn.ntmps = 8)
    (hres : fn.results = #[.tmp 2]) (htk : C.tk t = some (.slice e)) (htake3 : C.pol.take f 3 = false) (htake : C.pol.take f 6 = false)
    {av : List AV} {h h' : H} {r : AV} (ha : cloneF C.P e av h = some (r, h')) : FnDoes C f av h r h' ∧ h' = h := by
  unfold cloneF at ha
  split at ha
  · split at ha
    · rename_i i hi
      split at ha
      · rename_i hc
        simp only [Option.some.injEq, Prod.mk.injEq] at ha
        obtain ⟨rfl, rfl⟩ := ha
        exact ⟨clone_does hC hg hf hb hn hres htk hi htake3 htake hc.1 hc.2.1 hc.2.2.1 hc.2.2.2, rfl⟩
      · cases ha
    · cases ha
  · cases ha

end
end Go.AM
