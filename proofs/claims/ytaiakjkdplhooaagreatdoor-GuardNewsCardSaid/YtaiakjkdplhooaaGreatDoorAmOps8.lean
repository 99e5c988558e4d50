/- Conversions to slices of bytes; then: each operation that calls nothing. -/
import Derived.Test.YtaiakjkdplhooaaGreatDoorAmOps7
import Derived.Lib.ConvBytes
namespace Go.AM
open Go

section
variable {C : Ctx} {w w' : World} {G G' : Nat → Nat} {ρ : List Nat} {t : List AV} {vs : List Value} {h : H}

theorem encB_rel : ∀ (s : List UInt8), RelPs w G (encB s) (s.map fun b => Value.int .u8 b.toNat)
  | [] => by simp [encB, RelPs]
  | b :: s => by
    have h7 := encB_rel s
    simp only [encB, List.map_cons, RelPs, RelP] at h7 ⊢
    exact ⟨_, _, rfl, rfl, h7⟩

theorem flat_one_cells : ∀ (us : List Value), (∀ u ∈ us, u.oneCell' = true) → flat us = us
  | [], _ => rfl
  | u :: us, h => by
    show u.cells.toList ++ flat us = u :: us
    rw [one_cells (h u (by simp)), flat_one_cells us (fun x hx => h x (by simp [hx]))]; rfl

theorem opPost_strBytes (I : Inv C w G ρ t vs h) (src : Option Tmp) {a dst e : TypeId} {s : List UInt8} (hs : ∃ d, C.P.underlying a = some d) (hd : C.P.underlying dst = some (.slice e)) (he : C.P.underlying e = some (.int .u8)) :
    ∃ v w', (convert a dst (.string ⟨s.toArray⟩)).run C.P w = .ok v w' ∧ OpPost C w G ρ t vs h (.pv (.sl (encB s))) h (downT t src) v w' := by
  obtain ⟨d, hs⟩ := hs
  refine ⟨_, _, Lib.run_convert_string_bytes w a dst e _ hs hd he, ?_⟩
  obtain ⟨I1, k1⟩ := inv_down I src
  have hsz : (⟨s.toArray⟩ : ByteArray).size = s.length := by simp [ByteArray.size]
  let us : List Value := s.map fun b => Value.int .u8 b.toNat
  have hus : flat us = us := flat_one_cells us (fun u hu => by obtain ⟨b, _, rfl⟩ := List.mem_map.1 hu; rfl)
  let G' : Nat → Nat := fun b => if b = w.heap.size then s.length else G b
  have hst : ∀ b, b < w.heap.size → Stays w G (Lib.bytesWorld w e ⟨s.toArray⟩) G' b := fun b hb => ⟨Lib.bytesWorld_at_old w e _ b hb, by simp only [G']; rw [if_neg (Nat.ne_of_lt hb)]⟩
  have m : Mono w G (Lib.bytesWorld w e ⟨s.toArray⟩) G' := by
    refine ⟨fun b => ?_, fun b f v _ hv => ?_⟩
    · by_cases eb : b = w.heap.size
      · subst eb; rw [I.out _ (Nat.le_refl _)]; exact Nat.zero_le _
      · simp only [G', if_neg eb]; exact Nat.le_refl _
    · rw [Lib.bytesWorld_old w e _ _ (World.block_lt_of_cell? w _ hv)]; exact hv
  obtain ⟨I2, k2⟩ := I1.move (w' := Lib.bytesWorld w e ⟨s.toArray⟩) (G' := G') m (fun x g hx => hst g (owns_lt I1 hx)) (fun b hb => (hst b (mem_lt I1 hb)).blk)
    (fun b hb => by rw [(hst b (mem_lt I1 hb)).fr]; exact I1.objG b hb) (fun b hb => by
      rw [Lib.bytesWorld_size] at hb
      simp only [G']; rw [if_neg (by omega)]; exact I.out b (by omega))
  refine ⟨G', ρ, List.prefix_refl _, I2, ?_, fun g hg => by simp [ub] at hg, ?_⟩
  · simp only [RelA, RelP]
    have hlen : (encB s).length = s.length := by simp [encB]
    refine ⟨_, grownCap w s.length 0 e, by rw [hsz, hlen], by rw [hlen]; exact grownCap_ge w s.length 0 e, .inr ⟨w.heap.size, 0, 1, us, rfl, encB_rel s, fun u hu => by obtain ⟨b, _, rfl⟩ := List.mem_map.1 hu; rfl, ?_, ?_⟩⟩
    · rw [hus]
      intro j v hj
      have hjl : j < s.length := by have := getElem?_lt hj; simpa [us] using this
      rw [Nat.zero_add, Lib.bytesWorld_cell w e _ j (by rw [hsz]; exact hjl)]
      have e1 : us[j]? = some (Value.int .u8 s[j].toNat) := by simp [us, hjl]
      rw [e1] at hj
      rw [← hj]
      simp [List.getD, hjl]
    · rw [hus]; simp [us, G']
  · refine { toMono := m, size := by rw [Lib.bytesWorld_size]; omega, os := rfl, tape := rfl, output := rfl, keep := fun b hb _ => hst b hb, sub := fun b hb => .inl (touch_down I src b (hb.imp id fun ⟨x, hx⟩ => ⟨x, (k2 x b).1 hx⟩)) }

theorem freeze_at (w : World) (g : Nat) (cur : Array Value) (e : TypeId) (hg : w.heap[g]? = some (.cells cur e (0, 0))) :
    (w.freeze ⟨g, cur.size, none⟩ 1).heap[g]? = some (.cells cur e (cur.size, cur.size + 1)) ∧ (∀ k, k ≠ g → (w.freeze ⟨g, cur.size, none⟩ 1).heap[k]? = w.heap[k]?) ∧ (w.freeze ⟨g, cur.size, none⟩ 1).heap.size = w.heap.size := by
  have hlt : g < w.heap.size := (Array.getElem?_eq_some_iff.1 hg).1
  have hv : w.heap[g] = .cells cur e (0, 0) := (Array.getElem?_eq_some_iff.1 hg).2
  refine ⟨?_, fun k hk => ?_, ?_⟩
  · simp [World.freeze, Array.getElem?_modify, hg]
  · simp [World.freeze, Array.getElem?_modify, Ne.symm hk]
  · simp [World.freeze]

theorem opPost_mark (I : Inv C w G ρ t vs h) (src : Option Tmp) {dst e : TypeId} {l : List PV} {v : Value} (hd : C.P.underlying dst = some (.slice e)) (he : C.P.underlying e = some (.int .u8))
    (hx : RelA C w G ρ (.own (some e) l) v) (hl : l ≠ []) (hown : ∀ g, capBlock v = some g → OwnsAt w ρ t vs h (.t (src.getD 0)) g ∧ src.isSome = true) :
    ∃ w', (convert dst dst v).run C.P w = .ok v w' ∧ OpPost C w G ρ t vs h (.pv (.sl l)) h (downT t src) v w' := by
  have hdown := RelA_down hx
  simp only [AV.down, RelA] at hdown
  simp only [RelA] at hx
  rcases hx with ⟨i, us, hi, q1, q2, q3, q4⟩ | ⟨h0, _⟩
  case inr => exact absurd h0 hl
  rcases q3.2 with ⟨rfl, hn0⟩ | ⟨g, cap, cur, rfl, _, hg, hnc, hcm, hcs, htake⟩
  · exact absurd (List.eq_nil_of_length_eq_zero hn0) hl
  · have hc0 : cap ≠ 0 := fun h0 => hl (List.eq_nil_of_length_eq_zero (by omega))
    obtain ⟨ho, hs⟩ := hown g (by simp only [capBlock, if_neg hc0])
    obtain ⟨s, rfl⟩ := Option.isSome_iff_exists.1 hs
    obtain ⟨I1, k1⟩ := inv_down I (some s)
    have hnone : ∀ x, ¬ OwnsAt w ρ (downT t (some s)) vs h x g := fun x hx => (k1 x g hx).2 s rfl (I.uniq x _ g (k1 x g hx).1 ho)
    have hgρ := I.sep _ _ ho
    obtain ⟨f1, f2, f3⟩ := freeze_at w g cur e hg
    have hcell : ∀ b o, (w.freeze ⟨g, cur.size, none⟩ 1).cell? ⟨b, o, none⟩ = w.cell? ⟨b, o, none⟩ := by
      intro b o
      by_cases hb : b = g
      · subst hb; simp [World.cell?, f1, hg]
      · simp only [World.cell?, f2 b hb]
    have m : Mono w G (w.freeze ⟨g, cur.size, none⟩ 1) G := ⟨fun _ => Nat.le_refl _, fun b o v _ hv => by rw [hcell]; exact hv⟩
    obtain ⟨I2, k2⟩ := I1.move (w' := w.freeze ⟨g, cur.size, none⟩ 1) (G' := G) m (fun x b hx => ⟨f2 b (fun eb => hnone x (eb ▸ hx)), rfl⟩) (fun b hb => f2 b (fun eb => hgρ (eb ▸ hb))) I.objG (fun b hb => I.out b (by rw [← f3]; exact hb))
    refine ⟨w.freeze ⟨g, cur.size, none⟩ 1, ?_, G, ρ, List.prefix_refl _, I2, ?_, fun g hg => by simp [ub] at hg, ?_⟩
    · have hsh : w.shape? g = some (e, cur.size) := by simp [World.shape?, hg]
      simp [convert, run_underlying hd, run_underlying he, markStringish, hsh]
    · simp only [RelA]; exact RelP_mono m _ _ hdown
    · refine { toMono := m, size := by rw [f3]; exact Nat.le_refl _, os := rfl, tape := rfl, output := rfl, keep := fun b _ hS => ⟨f2 b (fun eb => hS (.inr ⟨_, eb ▸ ho⟩)), rfl⟩, sub := fun b hb => .inl (touch_down I _ b (hb.imp id fun ⟨x, hx⟩ => ⟨x, (k2 x b).1 hx⟩)) }

theorem opPost_slice0 (I : Inv C w G ρ t vs h) {ty : TypeId} {x r m : AV} {lo hi : Option AV} {vx vm : Value} {vlo vhi : Option Value} (hx : RelA C w G ρ x vx) (hlo : RelO C w G ρ lo vlo) (hhi : RelO C w G ρ hi vhi)
    (hm : RelA C w G ρ m vm) (ha : aslice0 C ty x lo hi m = some r) : ∃ v w', (Instr.sliceAt ty vx vlo vhi (some vm)).run C.P w = .ok v w' ∧ OpPost C w G ρ t vs h r h (downT t none) v w' := by
  unfold aslice0 at ha
  split at ha
  · rename_i e s hk
    split at ha
    · rename_i ei ll hh kk hei el eh em
      split at ha
      · rename_i hb
        obtain ⟨rfl, rfl, rfl⟩ := hb
        simp only [Option.some.injEq] at ha
        subst ha
        have hu := kOf_slice (P := C.P) (t := ty) (e := e) (tk_kOf hk)
        simp only [RelA, RelP] at hx
        obtain ⟨A, c, rfl, hc, _⟩ := hx
        obtain ⟨km, rfl⟩ := nat?_some hm em
        have hbounds : (Instr.sliceBounds true s.length c vlo vhi (some (.int km ((0 : Nat) : Int)))).run C.P w = .ok (0, 0, 0) w := by
          have eM : ∀ c', (Instr.sliceBound (.int km ((0 : Nat) : Int)) c c').run C.P w = .ok 0 w := fun c' => run_sliceBound km 0 c c' (by omega) w
          cases hi with
          | none => simp [bnd] at eh
          | some b =>
            obtain ⟨u, rfl, hu'⟩ := hhi
            obtain ⟨k', rfl⟩ := nat?_some hu' eh
            have eH : ∀ c', (Instr.sliceBound (.int k' ((0 : Nat) : Int)) 0 c').run C.P w = .ok 0 w := fun c' => run_sliceBound k' 0 0 c' (by omega) w
            cases lo with
            | none =>
              simp only [RelO] at hlo; subst hlo
              simp only [Instr.sliceBounds, Sem.run_bind, Sem.run_pure, Result.andThen_ok, if_true, eM, eH]
            | some a =>
              obtain ⟨v, rfl, hv⟩ := hlo
              obtain ⟨k, rfl⟩ := nat?_some hv el
              have eL : ∀ c', (Instr.sliceBound (.int k ((0 : Nat) : Int)) 0 c').run C.P w = .ok 0 w := fun c' => run_sliceBound k 0 0 c' (by omega) w
              simp only [Instr.sliceBounds, Sem.run_bind, Sem.run_pure, Result.andThen_ok, if_true, eM, eH, eL, Option.isSome_some]
        refine ⟨.slice A 0 0, w, ?_, ?_⟩
        · simp only [Instr.sliceAt, Sem.run_bind, run_underlying hu, Result.andThen_ok, Instr.slice, hbounds, ti_size hei, Sem.run_pure]
          simp
        · refine ⟨G, ρ, List.prefix_refl _, (inv_down I none).1, ?_, fun g hg => ?_, Tr.refl (touch_down I none)⟩
          · simp only [RelA]
            cases A with
            | none => exact .inl ⟨ei, [], hei, by simp [RelPs], by simp, World.ownsRow_nil _ _ _ _, fun g hg => by simp [Value.ownBlock] at hg⟩
            | some a => exact .inr ⟨rfl, a, rfl⟩
          · cases A <;> simp [ub, capBlock] at hg
      · cases ha
    · cases ha
  · cases ha

/-! ### Each operation -/
variable {a : Act}

theorem own_src (I : Inv C w G ρ t a.tmps.toList h) {x : Operand} {g : Nat} (hu : ub (aval C t x) (a.eval x) = some g) :
    OwnsAt w ρ t a.tmps.toList h (.t ((Operand.tmp? x).getD 0)) g ∧ (Operand.tmp? x).isSome = true := by
  cases x with
  | tmp i =>
    refine ⟨?_, rfl⟩
    simp only [aval, Act.eval] at hu
    rw [List.getD_eq_getElem?_getD] at hu
    cases ht : t[i]? with
    | none => rw [ht] at hu; simp [ub] at hu
    | some y =>
      rw [ht] at hu
      have hl : i < a.tmps.size := by
        have h1 : i < t.length := (List.getElem?_eq_some_iff.1 ht).1
        exact Nat.lt_of_lt_of_eq h1 (I.len.trans Array.length_toList)
      have hv : a.tmps.toList[i]? = some a.tmps[i] := by simp [hl]
      refine ⟨y, a.tmps[i], ht, hv, ?_⟩
      simpa [Array.getD, hl] using hu
  | const v => simp only [aval] at hu; rw [ub_lent (rel_cst C w G ρ v).1] at hu; cases hu
  | global g' => simp only [aval] at hu; rw [ub_lent (I.glob g').1] at hu; cases hu
  | func f => simp [aval, ub] at hu

theorem opPost_raw (I : Inv C w G ρ t a.tmps.toList h) (x : Operand) : OpPost C w G ρ t a.tmps.toList h (aval C t x) h (downT t (Operand.tmp? x)) (a.eval x) w := by
  cases hl : (aval C t x).lent with
  | true => exact opPost_pure I _ (rel_aval I x) hl
  | false =>
    refine ⟨G, ρ, List.prefix_refl _, (inv_down I _).1, rel_aval I x, fun g hg => ?_, Tr.refl (touch_down I _)⟩
    obtain ⟨ho, hs⟩ := own_src I hg
    obtain ⟨i, hi⟩ := Option.isSome_iff_exists.1 hs
    rw [hi] at ho ⊢
    refine ⟨I.sep _ _ ho, fun y hy => ?_, .inl (.inr ⟨_, ho⟩)⟩
    obtain ⟨y1, y2⟩ := (inv_down I (some i)).2 y g hy
    exact y2 i rfl (I.uniq y _ g y1 ho)

/-- What an operation does, and what it leaves. -/
def Does (C : Ctx) (w : World) (G : Nat → Nat) (ρ : List Nat) (t : List AV) (vs : List Value) (h : H) (r : AV) (h' : H) (t' : List AV) (s : Sem Next) : Prop :=
  ∃ v w', (s.run C.P w = .ok (.value v) w' ∨ (s.run C.P w = .ok .skip w' ∧ v = undef)) ∧ OpPost C w G ρ t vs h r h' t' v w'

theorem does_yields (I : Inv C w G ρ t vs h) (src : Option Tmp) {r : AV} {s : Sem Value} (hy : Yields C w G ρ s r) : Does C w G ρ t vs h r h (downT t src) (do pure (.value (← s))) := by
  obtain ⟨hl, v, hr, hrel⟩ := hy
  exact ⟨v, w, .inl (by simp [hr]), opPost_pure I src hrel hl⟩

theorem does_value {r : AV} {h' : H} {t' : List AV} {s : Sem Value} (hp : ∃ v w', s.run C.P w = .ok v w' ∧ OpPost C w G ρ t vs h r h' t' v w') : Does C w G ρ t vs h r h' t' (do pure (.value (← s))) := by
  obtain ⟨v, w', hr, hpost⟩ := hp
  exact ⟨v, w', .inl (by simp [hr]), hpost⟩

theorem relO_map {f : Operand → AV} {e : Operand → Value} (hf : ∀ x, RelA C w G ρ (f x) (e x)) (x : Option Operand) : RelO C w G ρ (x.map f) (x.map e) := by
  cases x with
  | none => rfl
  | some x => exact ⟨_, rfl, hf x⟩

end
end Go.AM
