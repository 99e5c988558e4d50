/- Runs as trees: a tree stops where a run depends on what isn't known. -/
import Derived.Test.YtaiakjkdplhooaaGreatDoorAmCan
namespace Go.AM
open Go

abbrev Res := AV × H × List Nat

inductive Outc where
  | code (e : AExit) (s : AS)
  | fin (r : Res)

inductive Tree where
  | leaf (o : Outc)
  | cnd (b : Bool) (x y : Tree)
  | opt (o : Option (AV × H)) (k : AV × H → Tree)
  | call (g : FuncId) (args : List AV) (h : H) (k : Res → Tree)
  | loop (body : AS → Tree) (clean cleanX : AS → AS) (s : AS) (k : AExit → AS → Tree)
  | bad

def forceNL {α : Type} : List Nat → (List Nat → α) → α
  | [], k => k []
  | a :: r, k => force a fun a' => forceNL r fun r' => k (a' :: r')



theorem forceNL_eq {α : Type} : ∀ (l : List Nat) (k : List Nat → α), forceNL l k = k l
  | [], k => rfl
  | a :: r, k => by simp only [forceNL, force_eq]; exact forceNL_eq r _

/-- Does it hang on values whether the operation can be done? -/
def opens (C : Ctx) (t : List AV) (o : Oper) : Bool :=
  match o.op with
  | .index .. | .indexAddr .. | .slice .. => true
  | .binOp op _ x _ _ => match op with
    | .quo | .rem | .shl | .shr => true
    | .add => match see C t x with
      | .pv (.str _) => true
      | _ => false
    | _ => false
  | .convert _ _ x => match aval C t x with
    | .pv (.int ..) => false
    | .pv (.str _) => false
    | _ => true
  | .call c => match c.callee with
    | .builtin .append => true
    | _ => false
  | .load _ x => match see C t x with
    | .view _ => true
    | _ => false
  | _ => false

def tplain (C : Ctx) (f : FuncId) (o : Oper) (s : AS) (k : AS → Tree) : Tree :=
  match opens C s.t o with
  | true => .opt (aop C f s.t s.h o) fun r => k ⟨putT (downT s.t (consumed C f o)) o.dst r.1, r.2, owr C f s.t o ++ s.wr⟩
  | false => match aop C f s.t s.h o with
    | some r => k ⟨putT (downT s.t (consumed C f o)) o.dst r.1, r.2, owr C f s.t o ++ s.wr⟩
    | none => .bad

def tcall (j : FuncId) (av : List AV) (h : H) (k : Res → Tree) : Tree :=
  forceNL (reach av h) fun π => match canOk π av h with
    | true => .call j (rens (idx π) av) (downH π h) fun r => match Nat.ble π.length r.2.1.length with
      | true => k (backR π h r)
      | false => .bad
    | false => .bad

def tstep (C : Ctx) (f : FuncId) (o : Oper) (s : AS) (k : AS → Tree) : Tree :=
  match o.op with
  | .call c => match c.callee with
    | .value g => match see C s.t g with
      | .fn j caps => tcall j (aargs C s.t (C.pol.ownArg j) 0 c.args.toList ++ caps) s.h fun r => k ⟨putT (downT s.t (ownTmp (C.pol.ownArg j) c.args.toList)) o.dst r.1, r.2.1, r.2.2 ++ s.wr⟩
      | _ => .bad
    | _ => tplain C f o s k
  | .pick c _ _ => match see C s.t c with
    | .pv (.bool true) => tplain C f o s k
    | .pv (.bool false) => tplain C f o s k
    | _ => .bad
  | _ => tplain C f o s k

def tguard (ops : Array Oper) (t : List AV) (o : Oper) (x y : Tree) : Tree :=
  match o.guard with
  | none => x
  | some (j, want) => match (ops[j]?).bind (·.dst) with
    | some d => match t.getD d .any with
      | .pv (.bool b) => match want with
        | true => .cnd b x y
        | false => .cnd b y x
      | .tup [] => y
      | _ => .bad
    | none => .bad

def tops (C : Ctx) (f : FuncId) (ops : Array Oper) : List Oper → AS → (AS → Tree) → Tree
  | [], s, k => k s
  | o :: r, s, k => tguard ops s.t o (tstep C f o s fun s' => tops C f ops r s' k) (tops C f ops r ⟨putT s.t o.dst (.tup []), s.h, s.wr⟩ k)

def tdops (C : Ctx) (f : FuncId) (ops : Array Oper) : List Oper → AS → (AS → List Fp → Tree) → Tree
  | [], s, k => k s []
  | o :: r, s, k => tguard ops s.t o
      (tstep C f o ⟨s.t, s.h, []⟩ fun s' => tdops C f ops r ⟨s'.t, s'.h, s'.wr ++ s.wr⟩ fun s2 l => k s2 (fpOf C f s.t s.h o s'.h s'.wr :: l))
      (tdops C f ops r ⟨putT s.t o.dst (.tup []), s.h, s.wr⟩ fun s2 l => k s2 (.pure :: l))

def tcode (C : Ctx) (f : FuncId) : Code → AS → (AExit → AS → Tree) → Tree
  | .skip, s, k => k .normal s
  | .region _ ops draw, s, k => match draw with
    | true => tdops C f ops ops.toList s fun s' fps => match drawOk C f ops fps with
      | true => k .normal s'
      | false => .bad
    | false => tops C f ops ops.toList s fun s' => k .normal s'
  | .seq a b, s, k => tcode C f a s fun e s' => match e with
    | .normal => tcode C f b s' k
    | .exit i => k (.exit i) s'
    | .ret => k .ret s'
  | .cond c a b, s, k => match see C s.t c with
    | .pv (.bool p) => .cnd p (tcode C f a s k) (tcode C f b s k)
    | _ => .bad
  | .block id c, s, k => tcode C f c s fun e s' => match e with
    | .normal => k .normal s'
    | .exit i => match Nat.beq i id with
      | true => k .normal s'
      | false => k (.exit i) s'
    | .ret => k .ret s'
  | .loop c, s, k => .loop (fun s => tcode C f c s fun e s' => .leaf (.code e s')) (cleanS ((C.pol.live f (firstRegion c)).map fun x => (x.1, x.2.2)) s.h.length)
      (cleanS ((C.pol.live f (firstRegion c)).map fun x => (x.2.1, x.2.2)) s.h.length) s k
  | .scope c, s, k => tcode C f c s k
  | .label _, s, k => k .normal s
  | .exit id, s, k => k (.exit id) s
  | .ret, s, k => k .ret s
  | _, _, _ => .bad

def tend (C : Ctx) (fn : Func) (h : H) (s : AS) : Tree :=
  match aresults C s fn.results.toList with
  | some l => .leaf (.fin (single l, trunc h.length [single l] s.h, s.wr.filter fun p => decide (p < h.length)))
  | none => .bad

def tfun (C : Ctx) (f : FuncId) (fn : Func) (c : Code) (args : List AV) (h : H) : Tree :=
  tcode C f c ⟨args ++ List.replicate (fn.ntmps - args.length) .any, h, []⟩ fun e s => match e with
    | .normal => tend C fn h s
    | .exit _ => .bad
    | .ret => tend C fn h s

/-! ### What a tree comes to -/
/-- The machine's answer, whatever its depth, if it is deep enough. -/
def Run (C : Ctx) (f : FuncId) (args : List AV) (h : H) (r : Res) : Prop := ∃ N, ∀ n, N ≤ n → acall C n f args h = some r

inductive Ev (C : Ctx) : Tree → Outc → Prop
  | leaf (o) : Ev C (.leaf o) o
  | cndT {x y o} : Ev C x o → Ev C (.cnd true x y) o
  | cndF {x y o} : Ev C y o → Ev C (.cnd false x y) o
  | opt {v k o} : Ev C (k v) o → Ev C (.opt (some v) k) o
  | call {g args h k r o} : Run C g args h r → Ev C (k r) o → Ev C (.call g args h k) o
  | loopN {body clean cleanX s s1 k o} : Ev C (body (clean s)) (.code .normal s1) → Ev C (.loop body clean cleanX s1 k) o → Ev C (.loop body clean cleanX s k) o
  | loopE {body clean cleanX s e s1 k o} : Ev C (body (clean s)) (.code e s1) → e ≠ .normal → Ev C (k e (cleanX s1)) o → Ev C (.loop body clean cleanX s k) o

section
variable {C : Ctx} {f : FuncId}

/-- From some depth on. -/
def Deep (P : Nat → Prop) : Prop := ∃ N, ∀ n, N ≤ n → P n

theorem Deep.and {P Q : Nat → Prop} (h1 : Deep P) (h2 : Deep Q) : Deep fun n => P n ∧ Q n := by
  obtain ⟨N, h1⟩ := h1
  obtain ⟨M, h2⟩ := h2
  exact ⟨max N M, fun n hn => ⟨h1 n (by omega), h2 n (by omega)⟩⟩

theorem Deep.mono {P Q : Nat → Prop} (h : Deep P) (hi : ∀ n, P n → Q n) : Deep Q := by
  obtain ⟨N, h⟩ := h
  exact ⟨N, fun n hn => hi n (h n hn)⟩

theorem Deep.triv {P : Nat → Prop} (h : ∀ n, P n) : Deep P := ⟨0, fun n _ => h n⟩

theorem Deep.succ {P : Nat → Prop} (h : Deep fun n => P (n + 1)) : Deep P := by
  obtain ⟨N, h⟩ := h
  exact ⟨N + 1, fun n hn => by
    obtain ⟨m, rfl⟩ : ∃ m, n = m + 1 := ⟨n - 1, by omega⟩
    exact h m (by omega)⟩

theorem Deep.pred {P : Nat → Prop} (h : Deep P) : Deep fun n => P (n + 1) := by
  obtain ⟨N, h⟩ := h
  exact ⟨N, fun n hn => h (n + 1) (by omega)⟩

abbrev cl (C : Ctx) (n : Nat) : ACall := ccall (acall C n)

theorem ev_plain {o : Oper} {s : AS} {k : AS → Tree} {r : Outc} (h : Ev C (tplain C f o s k) r) (_hc : ∀ c g, o.op = .call c → c.callee ≠ .value g) :
    ∃ s', (∀ call, astep C call f o s = some s') ∧ Ev C (k s') r := by
  unfold tplain at h
  split at h
  · generalize ho : aop C f s.t s.h o = x at h
    cases h with
    | @opt v _ _ h => exact ⟨_, fun call => by unfold astep; rw [ho], h⟩
  · split at h
    · rename_i v hv
      exact ⟨_, fun call => by unfold astep; rw [hv], h⟩
    · cases h

theorem ev_tcall {j : FuncId} {av : List AV} {h : H} {k : Res → Tree} {r : Outc} (hh : Ev C (tcall j av h k) r) : ∃ R, (Deep fun n => cl C n j av h = some R) ∧ Ev C (k R) r := by
  unfold tcall at hh
  rw [forceNL_eq] at hh
  split at hh
  · rename_i hcan
    cases hh with
    | @call _ _ _ _ R _ hr hk =>
      simp only at hk
      split at hk
      · rename_i hle
        refine ⟨_, Deep.mono hr fun n hn => ?_, hk⟩
        unfold cl ccall
        rw [if_pos hcan, hn]
        exact if_pos (Nat.le_of_ble_eq_true hle)
      · cases hk
  · cases hh

theorem aop_value {t : List AV} {h : H} {o : Oper} {c : Call} {g : Operand} (ho : o.op = .call c) (hc : c.callee = .value g) : aop C f t h o = none := by
  unfold aop
  rw [ho]
  simp only [hc]

theorem ev_step {o : Oper} {s : AS} {k : AS → Tree} {r : Outc} (h : Ev C (tstep C f o s k) r) : ∃ s', (Deep fun n => astep C (cl C n) f o s = some s') ∧ Ev C (k s') r := by
  have pl : Ev C (tplain C f o s k) r → (∀ c g, o.op = .call c → c.callee ≠ .value g) → ∃ s', (Deep fun n => astep C (cl C n) f o s = some s') ∧ Ev C (k s') r := fun h hc => by
    obtain ⟨s', h1, h2⟩ := ev_plain h hc
    exact ⟨s', Deep.triv fun n => h1 _, h2⟩
  unfold tstep at h
  split at h
  · rename_i c ho
    split at h
    · rename_i g hg
      split at h
      · rename_i j caps hs
        obtain ⟨R, h1, h2⟩ := ev_tcall h
        refine ⟨_, Deep.mono h1 fun n hn => ?_, h2⟩
        unfold astep
        rw [aop_value ho hg]
        simp only [ho, hg, hs, hn]
      · cases h
    · rename_i hne
      exact pl h (fun c' g e => by rw [ho] at e; cases e; exact hne g)
  · rename_i hp
    have hc : ∀ c g, o.op = .call c → c.callee ≠ .value g := fun c' g e => by rw [hp] at e; cases e
    split at h
    · exact pl h hc
    · exact pl h hc
    · cases h
  · rename_i hne _
    exact pl h (fun c' g e => absurd e (hne c'))

theorem ev_guard {ops : Array Oper} {t : List AV} {o : Oper} {x y : Tree} {r : Outc} (h : Ev C (tguard ops t o x y) r) : (aguard ops t o = some true ∧ Ev C x r) ∨ (aguard ops t o = some false ∧ Ev C y r) := by
  unfold tguard at h
  unfold aguard
  split at h
  · rename_i hg
    exact .inl ⟨by simp only [hg], h⟩
  · rename_i j want hg
    simp only [hg]
    split at h
    · rename_i d hd
      simp only [hd]
      split at h
      · rename_i b hb
        simp only [hb]
        split at h
        · cases h with
          | cndT h => exact .inl ⟨rfl, h⟩
          | cndF h => exact .inr ⟨rfl, h⟩
        · cases h with
          | cndT h => exact .inr ⟨rfl, h⟩
          | cndF h => exact .inl ⟨rfl, h⟩
      · rename_i hb
        simp only [hb]
        exact .inr ⟨trivial, h⟩
      · cases h
    · cases h

theorem ev_ops {ops : Array Oper} : ∀ (l : List Oper) (s : AS) (k : AS → Tree) (r : Outc), Ev C (tops C f ops l s k) r → ∃ s', (Deep fun n => aops C (cl C n) f ops l s = some s') ∧ Ev C (k s') r
  | [], s, k, r, h => ⟨s, Deep.triv fun n => rfl, h⟩
  | o :: l, s, k, r, h => by
    simp only [tops] at h
    rcases ev_guard h with ⟨hg, h⟩ | ⟨hg, h⟩
    · obtain ⟨s1, h1, h2⟩ := ev_step h
      obtain ⟨s2, h3, h4⟩ := ev_ops l s1 k r h2
      exact ⟨s2, Deep.mono (h1.and h3) fun n hn => by simp only [aops, hg, hn.1, hn.2], h4⟩
    · obtain ⟨s2, h3, h4⟩ := ev_ops l _ k r h
      exact ⟨s2, Deep.mono h3 fun n hn => by simp only [aops, hg, hn], h4⟩

theorem ev_dops {ops : Array Oper} : ∀ (l : List Oper) (s : AS) (k : AS → List Fp → Tree) (r : Outc), Ev C (tdops C f ops l s k) r →
    ∃ s' fps, (Deep fun n => adops C (cl C n) f ops l s = some (s', fps)) ∧ Ev C (k s' fps) r
  | [], s, k, r, h => ⟨s, [], Deep.triv fun n => rfl, h⟩
  | o :: l, s, k, r, h => by
    simp only [tdops] at h
    rcases ev_guard h with ⟨hg, h⟩ | ⟨hg, h⟩
    · obtain ⟨s1, h1, h2⟩ := ev_step h
      obtain ⟨s2, fps, h3, h4⟩ := ev_dops l _ _ r h2
      exact ⟨s2, _, Deep.mono (h1.and h3) fun n hn => by simp only [adops, hg, hn.1, hn.2], h4⟩
    · obtain ⟨s2, fps, h3, h4⟩ := ev_dops l _ _ r h
      exact ⟨s2, _, Deep.mono h3 fun n hn => by simp only [adops, hg, hn], h4⟩

theorem ev_code : ∀ (c : Code) (s : AS) (k : AExit → AS → Tree) (r : Outc), Ev C (tcode C f c s k) r → ∃ e s', (Deep fun n => aexec C (cl C n) f n c s = some (e, s')) ∧ Ev C (k e s') r := by
  intro c
  induction c with
  | skip => intro s k r h; exact ⟨_, _, Deep.triv fun n => rfl, h⟩
  | region id ops draw =>
    intro s k r h
    simp only [tcode] at h
    split at h
    · obtain ⟨s', fps, h1, h2⟩ := ev_dops _ _ _ _ h
      split at h2
      · rename_i hd
        exact ⟨_, _, Deep.mono h1 fun n hn => by simp only [aexec, hn, hd, if_true], h2⟩
      · cases h2
    · obtain ⟨s', h1, h2⟩ := ev_ops _ _ _ _ h
      exact ⟨_, _, Deep.mono h1 fun n hn => by simp only [aexec, hn, Bool.false_eq_true, if_false], h2⟩
  | seq x y ihx ihy =>
    intro s k r h
    simp only [tcode] at h
    obtain ⟨e, s1, h1, h2⟩ := ihx _ _ _ h
    cases e with
    | normal =>
      obtain ⟨e2, s2, h3, h4⟩ := ihy _ _ _ h2
      exact ⟨e2, s2, Deep.mono (h1.and h3) fun n hn => by simp only [aexec, hn.1, hn.2], h4⟩
    | exit i => exact ⟨_, _, Deep.mono h1 fun n hn => by simp only [aexec, hn], h2⟩
    | ret => exact ⟨_, _, Deep.mono h1 fun n hn => by simp only [aexec, hn], h2⟩
  | cond c x y ihx ihy =>
    intro s k r h
    simp only [tcode] at h
    split at h
    · rename_i p hp
      cases h with
      | cndT h =>
        obtain ⟨e, s1, h1, h2⟩ := ihx _ _ _ h
        exact ⟨e, s1, Deep.mono h1 fun n hn => by simp only [aexec, hp, hn], h2⟩
      | cndF h =>
        obtain ⟨e, s1, h1, h2⟩ := ihy _ _ _ h
        exact ⟨e, s1, Deep.mono h1 fun n hn => by simp only [aexec, hp, hn], h2⟩
    · cases h
  | block id c ih =>
    intro s k r h
    simp only [tcode] at h
    obtain ⟨e, s1, h1, h2⟩ := ih _ _ _ h
    cases e with
    | normal => exact ⟨_, _, Deep.mono h1 fun n hn => by simp only [aexec, hn], h2⟩
    | exit i =>
      simp only at h2
      split at h2
      · rename_i hb
        exact ⟨_, _, Deep.mono h1 fun n hn => by simp only [aexec, hn, Nat.eq_of_beq_eq_true hb, if_true], h2⟩
      · rename_i hb
        exact ⟨_, _, Deep.mono h1 fun n hn => by simp only [aexec, hn, if_neg (Nat.ne_of_beq_eq_false hb)], h2⟩
    | ret => exact ⟨_, _, Deep.mono h1 fun n hn => by simp only [aexec, hn], h2⟩
  | loop c ih =>
    intro s k r h
    simp only [tcode] at h
    suffices H : ∀ (cn cx : AS → AS) (t : Tree) (s : AS), Ev C t r → t = .loop (fun s => tcode C f c s fun e s' => .leaf (.code e s')) cn cx s k →
        ∃ e s', (∃ m, Deep fun n => ∀ d, aiter (aexec C (cl C n) f n c) cn cx (m + d) s = some (e, s')) ∧ Ev C (k e s') r by
      obtain ⟨e, s', ⟨m, N, h1⟩, h2⟩ := H _ _ _ s h rfl
      refine ⟨e, s', ⟨max N m, fun n hn => ?_⟩, h2⟩
      have := h1 n (by omega) (n - m)
      rw [Nat.add_sub_cancel' (by omega)] at this
      simp only [aexec]
      exact this
    clear h
    intro cn cx t s ht
    induction ht generalizing s with
    | leaf o => intro e; cases e
    | cndT _ _ => intro e; cases e
    | cndF _ _ => intro e; cases e
    | opt _ _ => intro e; cases e
    | call _ _ _ => intro e; cases e
    | @loopN body clean cleanX s0 s1 k0 o hb hr _ ih2 =>
      intro e
      simp only [Tree.loop.injEq] at e
      obtain ⟨rfl, rfl, rfl, rfl, rfl⟩ := e
      obtain ⟨e1, s2, h1, h2⟩ := ih _ _ _ hb
      cases h2
      obtain ⟨e2, s3, ⟨m, h3⟩, h4⟩ := ih2 s1 rfl
      refine ⟨e2, s3, ⟨m + 1, Deep.mono (h1.and h3) fun n hn d => ?_⟩, h4⟩
      rw [Nat.add_right_comm]
      simp only [aiter, hn.1]
      exact hn.2 d
    | @loopE body clean cleanX s0 e0 s1 k0 o hb hne hr _ _ =>
      intro e
      simp only [Tree.loop.injEq] at e
      obtain ⟨rfl, rfl, rfl, rfl, rfl⟩ := e
      obtain ⟨e1, s2, h1, h2⟩ := ih _ _ _ hb
      cases h2
      refine ⟨e0, _, ⟨1, Deep.mono h1 fun n hn d => ?_⟩, hr⟩
      rw [Nat.add_comm]
      simp only [aiter, hn]
      cases e0 with
      | normal => exact absurd rfl hne
      | exit i => rfl
      | ret => rfl
  | scope c ih =>
    intro s k r h
    simp only [tcode] at h
    obtain ⟨e, s1, h1, h2⟩ := ih _ _ _ h
    exact ⟨e, s1, Deep.mono h1 fun n hn => by simp only [aexec, hn], h2⟩
  | label l => intro s k r h; exact ⟨_, _, Deep.triv fun n => rfl, h⟩
  | exit id => intro s k r h; exact ⟨_, _, Deep.triv fun n => rfl, h⟩
  | ret => intro s k r h; exact ⟨_, _, Deep.triv fun n => rfl, h⟩
  | _ => intro s k r h; simp only [tcode] at h; cases h

end
end Go.AM
