import Derived.Test.YtkacieekahfdmaaGreatDoorLinesE
import Derived.Test.YtkacieekahfdmaaGreatDoorAbsE
set_option linter.unusedSimpArgs false
set_option linter.unusedVariables false
set_option linter.unusedSectionVars false
set_option linter.unusedSectionVars false
namespace Go.Proofs.YtkacieekahfdmaaGreatDoor
open Go Go.RowKit Go.Abs
/-- what the law's run is told ahead: how many places are taken, whether Repairs is above nought, turn % 10, turn / 10 % 2 -/
structure Par where
  n : Nat
  d : Bool
  r : Nat
  b : Nat
structure WfX (v : Val) (q : Par) (w : World) : Prop where
  s : WfS v q.n w
  r : WfR v
  plus : ∀ i, 2 ≤ i → i ≤ 10 → IntKind.i64.wrap (v.Y i + 1) = v.Y (i + 20)
  gen1 : v.Y 1 = v.Y 0 + 1
  mx : v.Y 0 = max 0 (v.Y 2)
  b2 : v.B 2 = decide (0 < v.Y 4)
  b3 : v.B 3 = decide (0 < v.Y 5)
  bn : ∀ i, i = 2 ∨ i = 3 → v.B (i + 10) = !v.B i
  dd : q.d = decide (0 < v.Y 6)
  t0 : 0 ≤ v.Y 42 ∧ v.Y 42 ≤ 255
  tr : q.r < 10 → v.Y 42 % 10 = q.r
  t1 : v.Y 41 = v.Y 42 / 10
  tb : q.r = 5 ∨ q.r = 6 → v.Y 41 % 2 = q.b
  sl : ∃ a L c, v.S 0 = .slice a L c ∧ v.Y 40 = L
  cut : ∀ w, (Instr.sliceAt 23 (v.S 0) none (some (.int .i64 (q.n : Int))) none).run Tryz.prog w = .ok (v.S 1) w
  mn : (q.n : Int) = min (v.Y 40) 10
noncomputable def hkInt (q : Par) (op : BinOp) (x y : Value) : Option Value :=
  match op, x, y with
  | .add, .chan (some a), .int .i64 1 => bif Nat.beq (a % 8) 0 && Nat.ble 2 (a / 8) && Nat.ble (a / 8) 10 then some (inTok (a / 8 + 20)) else none
  | .add, .chan (some 1), .int .u64 1 => some (.chan (some 9))
  | .gtr, .chan (some 32), .int .i64 0 => some (.chan (some 20))
  | .gtr, .chan (some 40), .int .i64 0 => some (.chan (some 28))
  | .gtr, .chan (some 48), .int .i64 0 => some (.bool q.d)
  | .leq, .chan (some 48), .int .i64 0 => some (.bool (!q.d))
  | .rem, .chan (some 338), .int .u8 10 => bif Nat.blt q.r 10 then some (.int .u8 q.r) else none
  | .quo, .chan (some 338), .int .u8 10 => some (.chan (some 330))
  | .rem, .chan (some 330), .int .u8 2 => bif Nat.beq q.r 5 || Nat.beq q.r 6 then some (.int .u8 q.b) else none
  | _, _, _ => none
noncomputable def hookX (q : Par) : Op → List Value → Option Value
  | .binOp op _ _ _ _, [x, y] => hkInt q op x y
  | .unOp .not _ _, [.chan (some a)] => bif Nat.beq a 20 || Nat.beq a 28 then some (.chan (some (a + 80))) else none
  | .convert 3 24 _, [.chan (some 0)] => some (.chan (some 1))
  | .slice 23 _ none (some _) none, [.chan (some 5), .int .i64 (.ofNat m)] => bif Nat.beq m q.n then some (.chan (some 13)) else none
  | .call { callee := .builtin .max, args := _, argTypes := _ }, [.int .i64 0, .chan (some 16)] => some (.chan (some 0))
  | .call { callee := .builtin .min, args := _, argTypes := _ }, [.chan (some 320), .int .i64 10] => some (.int .i64 q.n)
  | .call { callee := .builtin .len, args := _, argTypes := ts }, [.chan (some 5)] => (match ts.toList with | [23] => some (.chan (some 320)) | _ => none)
  | _, _ => none
noncomputable def hookO (q : Par) (op : Op) (vs : List Value) : Option Value :=
  match hookS q.n op vs with
  | some v => some v
  | none => hookX q op vs
section
variable {v : Val} {C : Ctx} (hP : C.P = Tryz.prog)
theorem run_intBin {P : Program} {ev : Operand → Value} {w : World} {op : BinOp} {k : IntKind} {a b : Int} {r : Value} (t yt : TypeId) (x y : Operand) (dst : Option Tmp) (ty : TypeId) (pos : String) (after : Array Edge) (guard : Option (Nat × Bool))
    (h : aInt op k a b = some r) (e1 : ev x = .int k a) (e2 : ev y = .int k b) : (execOp ev ⟨dst, .binOp op t x y yt, ty, pos, after, guard⟩).run P w = .ok (.value r) w := by
  letI : Toks := ⟨fun _ => none, fun _ _ h => by cases h⟩
  have hg : (eqGuard op t x y (.int k a) (.int k b)).run P w = .ok () w := by cases op <;> simp [eqGuard]
  have r1 := aInt_ok (t := t) h P w
  simp only [execOp, e1, e2, Sem.run_bind, hg, Result.andThen_ok, r1]; rfl
theorem run_max2 {P : Program} {w : World} (ts : Array TypeId) (ty : TypeId) (a b : Int) : (Builtin.max_ ts ty #[.int .i64 a, .int .i64 b]).run P w = .ok (.int .i64 (max a b)) w := by
  have h0 : (Builtin.max2 (.int .i64 a) (.int .i64 b)).run P w = .ok (.int .i64 (if b > a then b else a)) w := rfl
  have e : (if b > a then b else a) = max a b := by split <;> omega
  rw [e] at h0
  simp [Builtin.max_, List.foldlM_cons, h0]
theorem run_min2 {P : Program} {w : World} (ts : Array TypeId) (ty : TypeId) (a b : Int) : (Builtin.min_ ts ty #[.int .i64 a, .int .i64 b]).run P w = .ok (.int .i64 (min a b)) w := by
  have h0 : (Builtin.min2 (.int .i64 a) (.int .i64 b)).run P w = .ok (.int .i64 (if b < a then b else a)) w := rfl
  have e : (if b < a then b else a) = min a b := by split <;> omega
  rw [e] at h0
  simp [Builtin.min_, List.foldlM_cons, h0]
theorem VR.tk {Φ : Ph} (k : Nat) (x : Value) (h : tokVal v k = some x) : @VR (toks v) Φ (.chan (some k)) x := @VR.tok (toks v) Φ k x h
include hP in
theorem hookX_ok {q : Par} (hw : WfX v q C.w0) : @HookOK (toks v) C (hookX q) := by
  letI := toks v
  intro op vs r h Φ s ev w o hR ho hV
  obtain ⟨dst, oop, ty, pos, after, guard⟩ := o
  simp only at ho
  subst ho
  unfold hookX at h
  split at h
  · rename_i op t x y yt p p'
    obtain ⟨a, b, e, h1, h2⟩ := vrs2 hV
    simp only [Op.operands, List.map_cons, List.map_nil, List.cons.injEq, and_true] at e
    obtain ⟨e1, e2⟩ := e
    unfold hkInt at h
    split at h
    · rename_i k
      cases hb : (Nat.beq (k % 8) 0 && Nat.ble 2 (k / 8) && Nat.ble (k / 8) 10) with
      | false => rw [hb] at h; cases h
      | true =>
        rw [hb] at h
        cases h
        simp only [Bool.and_eq_true] at hb
        obtain ⟨⟨hb1, hb2⟩, hb3⟩ := hb
        have k1 := tok_inv h1
        unfold tokVal at k1
        rw [Nat.eq_of_beq_eq_true hb1] at k1
        cases k1
        have k2 := h2.int_inv
        rw [k2] at e2
        refine ⟨_, run_intBin t yt x y dst ty pos after guard (r := .int .i64 (IntKind.i64.wrap (v.Y (k / 8) + 1))) rfl e1 e2, ?_⟩
        rw [hw.plus _ (Nat.le_of_ble_eq_true hb2) (Nat.le_of_ble_eq_true hb3)]
        exact VR.inTok Φ _
    · cases h
      have k1 : some (Value.int .u64 (v.Y 0)) = some a := tok_inv h1
      cases k1
      have k2 := h2.int_inv
      rw [k2] at e2
      refine ⟨_, run_intBin t yt x y dst ty pos after guard (r := .int .u64 (IntKind.u64.wrap (v.Y 0 + 1))) rfl e1 e2, ?_⟩
      have hg := hw.r.gen 0 (by omega)
      have hg1 := hw.r.gen 1 (by omega)
      have e : IntKind.u64.wrap (v.Y 0 + 1) = v.Y 1 := by
        rw [hw.gen1] at hg1 ⊢
        rw [IntKind.wrap_u64]; omega
      rw [e]
      exact VR.tk 9 _ rfl
    · cases h
      have k1 : some (Value.int .i64 (v.Y 4)) = some a := tok_inv h1
      cases k1
      have k2 := h2.int_inv
      rw [k2] at e2
      refine ⟨_, run_intBin t yt x y dst ty pos after guard (r := .bool (decide (v.Y 4 > 0))) rfl e1 e2, ?_⟩
      have := VR.tk (v := v) (Φ := Φ) 20 (.bool (v.B 2)) rfl
      rw [hw.b2] at this
      exact this
    · cases h
      have k1 : some (Value.int .i64 (v.Y 5)) = some a := tok_inv h1
      cases k1
      have k2 := h2.int_inv
      rw [k2] at e2
      refine ⟨_, run_intBin t yt x y dst ty pos after guard (r := .bool (decide (v.Y 5 > 0))) rfl e1 e2, ?_⟩
      have := VR.tk (v := v) (Φ := Φ) 28 (.bool (v.B 3)) rfl
      rw [hw.b3] at this
      exact this
    · cases h
      have k1 : some (Value.int .i64 (v.Y 6)) = some a := tok_inv h1
      cases k1
      have k2 := h2.int_inv
      rw [k2] at e2
      refine ⟨_, run_intBin t yt x y dst ty pos after guard (r := .bool (decide (v.Y 6 > 0))) rfl e1 e2, ?_⟩
      rw [hw.dd]
      exact .bool Φ _
    · cases h
      have k1 : some (Value.int .i64 (v.Y 6)) = some a := tok_inv h1
      cases k1
      have k2 := h2.int_inv
      rw [k2] at e2
      refine ⟨_, run_intBin t yt x y dst ty pos after guard (r := .bool (decide (v.Y 6 ≤ 0))) rfl e1 e2, ?_⟩
      have e : (!q.d) = decide (v.Y 6 ≤ 0) := by
        rw [hw.dd, ← decide_not]; congr 1; apply propext; omega
      rw [e]
      exact .bool Φ _
    · cases hrr : Nat.blt q.r 10 with
      | false => rw [hrr] at h; cases h
      | true =>
      rw [hrr] at h
      cases h
      have k1 : some (Value.int .u8 (v.Y 42)) = some a := tok_inv h1
      cases k1
      have k2 := h2.int_inv
      rw [k2] at e2
      refine ⟨_, run_intBin t yt x y dst ty pos after guard (r := .int .u8 ((v.Y 42).tmod 10)) rfl e1 e2, ?_⟩
      have e : (v.Y 42).tmod 10 = q.r := by rw [Int.tmod_eq_emod_of_nonneg hw.t0.1]; exact hw.tr (blt_of hrr)
      rw [e]
      exact .int Φ _ _
    · cases h
      have k1 : some (Value.int .u8 (v.Y 42)) = some a := tok_inv h1
      cases k1
      have k2 := h2.int_inv
      rw [k2] at e2
      refine ⟨_, run_intBin t yt x y dst ty pos after guard (r := .int .u8 (IntKind.u8.wrap ((v.Y 42).tdiv 10))) rfl e1 e2, ?_⟩
      have e : IntKind.u8.wrap ((v.Y 42).tdiv 10) = v.Y 41 := by
        have := hw.t0
        rw [hw.t1, Int.tdiv_eq_ediv_of_nonneg hw.t0.1, IntKind.wrap_u8]; omega
      rw [e]
      exact VR.tk 330 _ rfl
    · cases hrr : (Nat.beq q.r 5 || Nat.beq q.r 6) with
      | false => rw [hrr] at h; cases h
      | true =>
      rw [hrr] at h
      cases h
      simp only [Bool.or_eq_true] at hrr
      have hrr : q.r = 5 ∨ q.r = 6 := hrr.elim (fun h => .inl (Nat.eq_of_beq_eq_true h)) (fun h => .inr (Nat.eq_of_beq_eq_true h))
      have k1 : some (Value.int .u8 (v.Y 41)) = some a := tok_inv h1
      cases k1
      have k2 := h2.int_inv
      rw [k2] at e2
      refine ⟨_, run_intBin t yt x y dst ty pos after guard (r := .int .u8 ((v.Y 41).tmod 2)) rfl e1 e2, ?_⟩
      have h0 : 0 ≤ v.Y 41 := by rw [hw.t1]; have := hw.t0; omega
      have e : (v.Y 41).tmod 2 = q.b := by rw [Int.tmod_eq_emod_of_nonneg h0]; exact hw.tb hrr
      rw [e]
      exact .int Φ _ _
    · cases h
  · rename_i t x k
    obtain ⟨a, e, h1⟩ := vrs1 hV
    simp only [Op.operands, List.map_cons, List.map_nil, List.cons.injEq, and_true] at e
    cases hb : (Nat.beq k 20 || Nat.beq k 28) with
    | false => rw [hb] at h; cases h
    | true =>
      rw [hb] at h
      cases h
      simp only [Bool.or_eq_true] at hb
      rcases hb with hb | hb
      · have hb := Nat.eq_of_beq_eq_true hb
        subst hb
        have k1 : some (Value.bool (v.B 2)) = some a := tok_inv h1
        cases k1
        refine ⟨.bool (!v.B 2), by simp [execOp, e, Op.unary], ?_⟩
        rw [← hw.bn 2 (.inl rfl)]
        exact VR.tk 100 _ rfl
      · have hb := Nat.eq_of_beq_eq_true hb
        subst hb
        have k1 : some (Value.bool (v.B 3)) = some a := tok_inv h1
        cases k1
        refine ⟨.bool (!v.B 3), by simp [execOp, e, Op.unary], ?_⟩
        rw [← hw.bn 3 (.inr rfl)]
        exact VR.tk 108 _ rfl
  · rename_i x
    obtain ⟨a, e, h1⟩ := vrs1 hV
    simp only [Op.operands, List.map_cons, List.map_nil, List.cons.injEq, and_true] at e
    cases h
    have k1 : some (Value.int .i64 (v.Y 0)) = some a := tok_inv h1
    cases k1
    have hg := hw.r.gen 0 (by omega)
    refine ⟨.int .u64 (v.Y 0), ?_, VR.tk 1 _ rfl⟩
    have ew : IntKind.u64.wrap (v.Y 0) = v.Y 0 := by rw [IntKind.wrap_u64]; omega
    rw [hP]
    simp only [execOp, convert, Sem.run_bind, run_underlying Tryz.underlying3, run_underlying Tryz.underlying24, Result.andThen_ok, e]
    show Result.ok (Next.value (.int .u64 (IntKind.u64.wrap (v.Y 0)))) w = _
    rw [ew]
  · rename_i x hi m
    obtain ⟨a, b, e, h1, h2⟩ := vrs2 hV
    simp [Op.operands] at e
    obtain ⟨e1, e2⟩ := e
    cases hb : Nat.beq m q.n with
    | false => rw [hb] at h; cases h
    | true =>
      rw [hb] at h
      cases h
      have hb := Nat.eq_of_beq_eq_true hb
      subst hb
      have k1 : some (v.S 0) = some a := tok_inv h1
      cases k1
      have k2 := h2.int_inv
      rw [k2] at e2
      refine ⟨v.S 1, ?_, VR.tk 13 _ rfl⟩
      rw [hP]
      simp only [execOp, Sem.run_bind, Option.map_some, Option.map_none, e1, e2]
      rw [show (Value.int .i64 (Int.ofNat q.n)) = .int .i64 (q.n : Int) from rfl, hw.cut]
      rfl
  · rename_i args ts
    obtain ⟨a, b, e, h1, h2⟩ := vrs2 hV
    cases h
    have k1 := h1.int_inv
    have k2 : some (Value.int .i64 (v.Y 2)) = some b := tok_inv h2
    cases k2
    subst k1
    have ha : args.map ev = #[.int .i64 0, .int .i64 (v.Y 2)] := by
      apply Array.ext'
      have e' := e
      simp [Op.operands, Call.operands] at e'
      simpa using e'
    refine ⟨.int .i64 (v.Y 0), ?_, VR.tk 0 _ rfl⟩
    rw [hw.mx]
    simp only [execOp, resolve, Sem.run_bind, Sem.run_pure, Result.andThen_ok, ha]
    simp [invoke, builtin, run_max2]
  · rename_i args ts
    obtain ⟨a, b, e, h1, h2⟩ := vrs2 hV
    cases h
    have k1 : some (Value.int .i64 (v.Y 40)) = some a := tok_inv h1
    have k2 := h2.int_inv
    cases k1
    subst k2
    have ha : args.map ev = #[.int .i64 (v.Y 40), .int .i64 10] := by
      apply Array.ext'
      have e' := e
      simp [Op.operands, Call.operands] at e'
      simpa using e'
    refine ⟨.int .i64 q.n, ?_, .int Φ _ _⟩
    rw [hw.mn]
    simp only [execOp, resolve, Sem.run_bind, Sem.run_pure, Result.andThen_ok, ha]
    simp [invoke, builtin, run_min2]
  · rename_i args ts
    obtain ⟨a, e, h1⟩ := vrs1 hV
    split at h
    · rename_i hts
      cases h
      have k1 : some (v.S 0) = some a := tok_inv h1
      obtain ⟨aa, L, c, g1, g2⟩ := hw.sl
      rw [g1] at k1
      cases k1
      have ha : args.map ev = #[.slice aa L c] := by
        apply Array.ext'
        have e' := e
        simp [Op.operands, Call.operands] at e'
        simpa using e'
      have ht : ts[0]? = some 23 := by rw [← Array.getElem?_toList, hts]; rfl
      refine ⟨.int .i64 (v.Y 40), ?_, VR.tk 320 _ rfl⟩
      rw [hP, g2]
      simp only [execOp, resolve, Sem.run_bind, Sem.run_pure, Result.andThen_ok, ha]
      simp [invoke, builtin, Builtin.len_, ht, run_underlying Tryz.underlying23, goInt]
    · cases h
  · cases h
include hP in
theorem hookO_ok {q : Par} (hw : WfX v q C.w0) (hB : C.B = C.w0.heap.size) : @HookOK (toks v) C (hookO q) := by
  letI := toks v
  intro op vs r h Φ s ev w o hR ho hV
  unfold hookO at h
  split at h
  · rename_i u hu
    cases h
    exact hookS_ok hP hw.s hB op vs _ hu Φ s ev w o hR ho hV
  · exact hookX_ok hP hw op vs r h Φ s ev w o hR ho hV
end
end Go.Proofs.YtkacieekahfdmaaGreatDoor
set_option linter.unusedSectionVars false
namespace Go.Proofs.YtkacieekahfdmaaGreatDoor
open Go Go.RowKit Go.Abs
/-! Lines and slices.Equal at tokens -/
def numP : Value → Option (List Nat)
  | .chan (some k) => bif Nat.beq (k % 8) 0 && (!(Nat.beq (k / 8) 1)) && Nat.blt (k / 8) 700 then some [33, 257 + k / 8] else none
  | .int .i64 (.ofNat m) => bif Nat.blt m 10 then some [33, 49 + m] else none
  | _ => none
def bitP : Value → Option (List Nat)
  | .chan (some k) => bif Nat.beq (k % 8) 4 && Nat.blt (k / 8) 50 then some [33, 307 + k / 8] else none
  | .bool b => some [33, bif b then 50 else 49]
  | _ => none
def genP : Value → Option (List Nat)
  | .chan (some k) => bif Nat.beq (k % 8) 1 && Nat.blt (k / 8) 2 then some [257 + k / 8] else none
  | _ => none
def allP (f : Value → Option (List Nat)) : List Value → Option (List (List Nat))
  | [] => some []
  | x :: l => (match f x, allP f l with | some p, some r => some (p :: r) | _, _ => none)
def badL : List Value → Option (List (List Nat))
  | [] => some []
  | x :: y :: l => (match numP x, numP y, badL l with | some p, some q, some r => some (([99, 98, 101] ++ p ++ q) :: r) | _, _, _ => none)
  | _ => none
def linesO (g : List Nat) (ns bs : List (List Nat)) (bad : List (List Nat)) : Option (List (List Nat)) :=
  match ns, bs with
  | [h, f, u, r, m0, m1, l0, l1, dn, fl, le], [d0, d1, dg] => some ([[104, 102, 111, 33] ++ g, [117, 115, 102, 102] ++ h ++ f ++ u, [115, 102, 113, 98, 106, 115, 116] ++ r, [110, 112, 119, 102, 101] ++ m0 ++ m1,
      [109, 102, 103, 117] ++ l0 ++ l1, [101, 102, 98, 101] ++ d0 ++ d1, [116, 106, 109, 119, 102, 115] ++ dg ++ dn, [103, 109, 118, 116, 105, 102, 116] ++ fl ++ le] ++ bad)
  | _, _ => none
noncomputable def badsOf (s : AS) : Value → Option (List (List Nat))
  | .slice none 0 0 => some []
  | .slice (some a) n _ => bif Nat.ble n 11 then (match loadC s a.block a.off (2 * n) with | some l => badL l | none => none) else none
  | _ => none
noncomputable def hLnO : Hd
  | [.agg cs], s => (match cs.toList with
    | [g, h, f, u, r, m0, m1, l0, l1, d0, d1, dg, dn, bad, fl, le] => (match genP g, allP numP [h, f, u, r, m0, m1, l0, l1, dn, fl, le], allP bitP [d0, d1, dg], badsOf s bad with
      | some g, some ns, some bs, some bl => (match linesO g ns bs bl with
        | some ls => (match s.new (.cells 9 (ls.map fun l => strTok (codeOf l)) true 0 0) with
          | some (i, s') => some (.slice (some ⟨i, 0, none⟩) ls.length (2 * ls.length + 1), s')
          | none => none)
        | none => none)
      | _, _, _, _ => none)
    | _ => none)
  | _, _ => none
section
variable {v : Val}
def pcs (v : Val) (l : List Nat) : List UInt8 := l.flatMap (pieceOf v)
theorem pcs_app (l k : List Nat) : pcs v (l ++ k) = pcs v l ++ pcs v k := by unfold pcs; rw [List.flatMap_append]
def Small (l : List Nat) : Prop := ∀ d ∈ l, d < 1024
theorem Small.app {l k : List Nat} (h : Small l) (h' : Small k) : Small (l ++ k) := fun d hd => (List.mem_append.1 hd).elim (h d) (h' d)
theorem piece_sp : pieceOf v 33 = [32] := by unfold pieceOf; rfl
theorem piece_no (i : Nat) : pieceOf v (257 + i) = Lib.itoa (v.Y i) := by
  unfold pieceOf
  rw [if_neg (by omega), if_neg (by omega), show 257 + i - 257 = i by omega]
theorem pcs_two (i : Nat) : pcs v [33, 257 + i] = 32 :: Lib.itoa (v.Y i) := by
  show pieceOf v 33 ++ (pieceOf v (257 + i) ++ []) = _
  rw [piece_sp, piece_no]; simp
theorem small_two {i : Nat} (h : i < 700) : Small [33, 257 + i] := by
  intro d hd
  simp at hd
  omega
theorem numP_ok (hw : WfR v) {Φ : Ph} {x u : Value} {l : List Nat} (h : numP x = some l) (hx : @VR (toks v) Φ x u) : ∃ n, u = .int .i64 n ∧ Rng n ∧ pcs v l = 32 :: Lib.itoa n ∧ Small l := by
  letI := toks v
  unfold numP at h
  split at h
  · rename_i k
    cases hb : (Nat.beq (k % 8) 0 && (!(Nat.beq (k / 8) 1)) && Nat.blt (k / 8) 700) with
    | false => rw [hb] at h; cases h
    | true =>
      rw [hb] at h
      cases h
      simp only [Bool.and_eq_true, Bool.not_eq_true'] at hb
      obtain ⟨⟨hb1, hb2⟩, hb3⟩ := hb
      have hne : k / 8 ≠ 1 := fun e => by rw [e] at hb2; cases hb2
      have k1 := tok_inv hx
      unfold tokVal at k1
      rw [Nat.eq_of_beq_eq_true hb1] at k1
      cases k1
      exact ⟨_, rfl, hw.rng _ hne, pcs_two _, small_two (blt_of hb3)⟩
  · rename_i m
    cases hb : Nat.blt m 10 with
    | false => rw [hb] at h; cases h
    | true =>
      rw [hb] at h
      cases h
      have hb := blt_of hb
      have k1 := hx.int_inv
      refine ⟨m, k1, ⟨by omega, by omega⟩, ?_, fun d hd => by simp at hd; omega⟩
      show pieceOf v 33 ++ (pieceOf v (49 + m) ++ []) = _
      rw [piece_sp, itoa_small m hb]
      unfold pieceOf
      rw [if_neg (by omega), if_pos (by omega), show 49 + m - 1 = 48 + m by omega]
      simp
  · cases h
theorem bitP_ok (hw : WfR v) {Φ : Ph} {x u : Value} {l : List Nat} (h : bitP x = some l) (hx : @VR (toks v) Φ x u) : ∃ b, u = .bool b ∧ pcs v l = 32 :: Lib.itoa (b2i b) ∧ Small l := by
  letI := toks v
  unfold bitP at h
  split at h
  · rename_i k
    cases hb : (Nat.beq (k % 8) 4 && Nat.blt (k / 8) 50) with
    | false => rw [hb] at h; cases h
    | true =>
      rw [hb] at h
      cases h
      simp only [Bool.and_eq_true] at hb
      have hb3 := blt_of hb.2
      have k1 := tok_inv hx
      unfold tokVal at k1
      rw [Nat.eq_of_beq_eq_true hb.1] at k1
      cases k1
      refine ⟨_, rfl, ?_, ?_⟩
      · rw [show 307 + k / 8 = 257 + (50 + k / 8) by omega, pcs_two, hw.bit _ hb3]; rfl
      · rw [show 307 + k / 8 = 257 + (50 + k / 8) by omega]; exact small_two (by omega)
  · rename_i b
    cases h
    refine ⟨b, hx.bool_inv, ?_, fun d hd => ?_⟩
    · show pieceOf v 33 ++ (pieceOf v _ ++ []) = _
      have := itoa_bit b
      unfold b2i
      rw [piece_sp, this]
      cases b <;> (unfold pieceOf; rfl)
    · cases b <;> (simp at hd; omega)
  · cases h
theorem genP_ok (hw : WfR v) {Φ : Ph} {x u : Value} {l : List Nat} (h : genP x = some l) (hx : @VR (toks v) Φ x u) : ∃ n, u = .int .u64 n ∧ (0 ≤ n ∧ n < 18446744073709551616) ∧ pcs v l = Lib.itoa n ∧ Small l := by
  letI := toks v
  unfold genP at h
  split at h
  · rename_i k
    cases hb : (Nat.beq (k % 8) 1 && Nat.blt (k / 8) 2) with
    | false => rw [hb] at h; cases h
    | true =>
      rw [hb] at h
      cases h
      simp only [Bool.and_eq_true] at hb
      have hb3 := blt_of hb.2
      have k1 := tok_inv hx
      unfold tokVal at k1
      rw [Nat.eq_of_beq_eq_true hb.1] at k1
      cases k1
      refine ⟨_, rfl, hw.gen _ hb3, ?_, fun d hd => ?_⟩
      · show pieceOf v _ ++ [] = _
        rw [piece_no]; simp
      · simp at hd; omega
  · cases h
theorem nums_ok (hw : WfR v) {Φ : Ph} : ∀ {xs us : List Value} {ls : List (List Nat)}, allP numP xs = some ls → @VRs (toks v) Φ xs us → ∃ ns : List Int, us = ns.map (Value.int .i64) ∧ (∀ n ∈ ns, Rng n) ∧ ls.map (pcs v) = ns.map (fun n => 32 :: Lib.itoa n) ∧ (∀ l ∈ ls, Small l) := by
  letI := toks v
  intro xs
  induction xs with
  | nil => intro us ls h hx; cases h; cases hx.nil_inv; exact ⟨[], rfl, by simp, rfl, by simp⟩
  | cons x xs ih =>
    intro us ls h hx
    obtain ⟨u, us', rfl, h1, h2⟩ := hx.head
    unfold allP at h
    split at h
    · rename_i p r hp hr
      cases h
      obtain ⟨n, rfl, g1, g2, g3⟩ := numP_ok hw hp h1
      obtain ⟨ns, rfl, k1, k2, k3⟩ := ih hr h2
      refine ⟨n :: ns, rfl, fun m hm => ?_, by simp [g2, k2], fun l hl => ?_⟩
      · rcases List.mem_cons.1 hm with rfl | hm
        · exact g1
        · exact k1 m hm
      · rcases List.mem_cons.1 hl with rfl | hl
        · exact g3
        · exact k3 l hl
    · cases h
theorem bits_ok (hw : WfR v) {Φ : Ph} : ∀ {xs us : List Value} {ls : List (List Nat)}, allP bitP xs = some ls → @VRs (toks v) Φ xs us → ∃ ns : List Bool, us = ns.map Value.bool ∧ ls.map (pcs v) = ns.map (fun n => 32 :: Lib.itoa (b2i n)) ∧ (∀ l ∈ ls, Small l) := by
  letI := toks v
  intro xs
  induction xs with
  | nil => intro us ls h hx; cases h; cases hx.nil_inv; exact ⟨[], rfl, rfl, by simp⟩
  | cons x xs ih =>
    intro us ls h hx
    obtain ⟨u, us', rfl, h1, h2⟩ := hx.head
    unfold allP at h
    split at h
    · rename_i p r hp hr
      cases h
      obtain ⟨n, rfl, g2, g3⟩ := bitP_ok hw hp h1
      obtain ⟨ns, rfl, k2, k3⟩ := ih hr h2
      refine ⟨n :: ns, rfl, by simp [g2, k2], fun l hl => ?_⟩
      rcases List.mem_cons.1 hl with rfl | hl
      · exact g3
      · exact k3 l hl
    · cases h
theorem pcs_bad : pcs v [99, 98, 101] = [98, 97, 100] := by
  show pieceOf v 99 ++ (pieceOf v 98 ++ (pieceOf v 101 ++ [])) = _
  have e1 : pieceOf v 99 = [98] := by unfold pieceOf; rfl
  have e2 : pieceOf v 98 = [97] := by unfold pieceOf; rfl
  have e3 : pieceOf v 101 = [100] := by unfold pieceOf; rfl
  rw [e1, e2, e3]; rfl
theorem bads_ok (hw : WfR v) {Φ : Ph} : ∀ (k : Nat) {xs us : List Value} {ls : List (List Nat)}, xs.length ≤ k → badL xs = some ls → @VRs (toks v) Φ xs us → ∃ bad : List (Int × Int), us = bad.flatMap (fun p => [Value.int .i64 p.1, .int .i64 p.2]) ∧
    (∀ p ∈ bad, Rng p.1 ∧ Rng p.2) ∧ ls.map (pcs v) = bad.map (fun p => lineB [98, 97, 100] [p.1, p.2]) ∧ (∀ l ∈ ls, Small l) := by
  letI := toks v
  intro k
  induction k with
  | zero =>
    intro xs us ls hk h hx
    cases xs with
    | nil => cases h; cases hx.nil_inv; exact ⟨[], rfl, by simp, rfl, by simp⟩
    | cons _ _ => simp at hk
  | succ k ih =>
    intro xs us ls hk h hx
    match xs, hk, h, hx with
    | [], _, h, hx => cases h; cases hx.nil_inv; exact ⟨[], rfl, by simp, rfl, by simp⟩
    | [x], _, h, hx => cases h
    | x :: y :: xs, hk, h, hx =>
      obtain ⟨u1, us1, rfl, h1, hx2⟩ := hx.head
      obtain ⟨u2, us2, rfl, h2, hx3⟩ := hx2.head
      unfold badL at h
      split at h
      · rename_i p q r hp hq hr
        cases h
        obtain ⟨n, rfl, a1, a2, a3⟩ := numP_ok hw hp h1
        obtain ⟨m, rfl, b1, b2, b3⟩ := numP_ok hw hq h2
        obtain ⟨bad, rfl, c1, c2, c3⟩ := ih (by simp at hk; omega) hr hx3
        refine ⟨(n, m) :: bad, rfl, fun z hz => ?_, ?_, fun l hl => ?_⟩
        · rcases List.mem_cons.1 hz with rfl | hz
          · exact ⟨a1, b1⟩
          · exact c1 z hz
        · simp only [List.map_cons, c2]
          congr 1
          rw [pcs_app, pcs_app, a2, b2, pcs_bad]
          simp [lineB]
        · rcases List.mem_cons.1 hl with rfl | hl
          · exact (Small.app (Small.app (fun d hd => by simp at hd; omega) a3) b3)
          · exact c3 l hl
      · cases h
end
end Go.Proofs.YtkacieekahfdmaaGreatDoor
set_option linter.unusedSectionVars false
namespace Go.Proofs.YtkacieekahfdmaaGreatDoor
open Go Go.RowKit Go.Abs
section
variable {v : Val} {C : Ctx} (hP : C.P = Tryz.prog) (hB : C.B = C.w0.heap.size)
theorem lineB_app (w : List UInt8) (x : Int) (l : List Int) : lineB w (x :: l) = lineB (w ++ 32 :: Lib.itoa x) l := rfl
theorem small_word (w : List Nat) (h : w.all (fun d => Nat.blt d 1024) = true) : Small w := fun d hd => blt_of (List.all_eq_true.1 h d hd)
theorem pairs_len : ∀ bad : List (Int × Int), (bad.flatMap (fun p => [Value.int .i64 p.1, Value.int .i64 p.2])).length = 2 * bad.length := by
  intro bad
  induction bad with
  | nil => rfl
  | cons b bad ih => rw [List.flatMap_cons, List.length_append, ih]; simp; omega
theorem map_cons_inv {α β : Type} {f : α → β} {x : β} {xs : List β} {l : List α} (h : x :: xs = l.map f) : ∃ a l', l = a :: l' ∧ x = f a ∧ xs = l'.map f := by
  cases l with
  | nil => cases h
  | cons a l => simp only [List.map_cons, List.cons.injEq] at h; exact ⟨a, l, rfl, h.1, h.2⟩
theorem map_nil_inv {α β : Type} {f : α → β} {l : List α} (h : [] = l.map f) : l = [] := by
  cases l with
  | nil => rfl
  | cons a l => cases h
/-- the slice of places of a status -/
theorem badsOf_ok (hw : WfR v) {Φ : Ph} {s : AS} {w : World} (hR : @Rel (toks v) C Φ s w) {x u : Value} {bl : List (List Nat)} (h : badsOf s x = some bl) (hx : @VR (toks v) Φ x u) :
    ∃ (bad : List (Int × Int)) (a : Option Addr) (c : Nat), u = .slice a bad.length c ∧ bad.length ≤ 11 ∧ BadIs w (.slice a bad.length c) bad ∧ bl.map (pcs v) = bad.map (fun p => lineB [98, 97, 100] [p.1, p.2]) ∧ (∀ l ∈ bl, Small l) := by
  letI := toks v
  unfold badsOf at h
  split at h
  · cases h
    exact ⟨[], none, 0, hx.nilslice_inv.2.2, by simp, ⟨⟨_, _, rfl⟩, fun k p hk => by simp at hk⟩, rfl, by simp⟩
  · rename_i a n c2
    cases hn : Nat.ble n 11 with
    | false => rw [hn] at h; cases h
    | true =>
      rw [hn] at h
      have hn := Nat.le_of_ble_eq_true hn
      simp only [cond_true] at h
      split at h
      · rename_i l hl
        obtain ⟨hsp, p, cap, hp, hu, _⟩ := hx.slice_inv
        obtain ⟨us, hus, hlen, hcell, _⟩ := loadC_ok hR hl hp
        obtain ⟨bad, rfl, g1, g2, g3⟩ := bads_ok hw l.length (Nat.le_refl _) h hus
        have hlb := pairs_len bad
        have hnb : bad.length = n := by have := hus.1; omega
        subst hnb
        refine ⟨bad, some ⟨p.b, a.off, none⟩, cap, hu, hn, ⟨⟨_, _, rfl⟩, fun k q hk => ?_⟩, g2, g3⟩
        have hm : q ∈ bad := List.mem_of_getElem? hk
        obtain ⟨r1, r2⟩ := g1 q hm
        have hget : ∀ (bad : List (Int × Int)) (k : Nat) q, bad[k]? = some q → (bad.flatMap (fun p => [Value.int .i64 p.1, Value.int .i64 p.2]))[k * 2]? = some (.int .i64 q.1) ∧ (bad.flatMap (fun p => [Value.int .i64 p.1, Value.int .i64 p.2]))[k * 2 + 1]? = some (.int .i64 q.2) := by
          intro bad
          induction bad with
          | nil => intro k q h; simp at h
          | cons b bad ih =>
            intro k q h
            cases k with
            | zero => simp at h; subst h; exact ⟨rfl, rfl⟩
            | succ k =>
              obtain ⟨i1, i2⟩ := ih k q (by simpa using h)
              rw [List.flatMap_cons]
              refine ⟨?_, ?_⟩
              · rw [show (k + 1) * 2 = k * 2 + 2 by omega]; simpa using i1
              · rw [show (k + 1) * 2 + 1 = (k * 2 + 1) + 2 by omega]; simpa using i2
        obtain ⟨e1, e2⟩ := hget bad k q hk
        refine ⟨r1, r2, p.b, a.off, cap, rfl, (hR.lt _ _ hp).2, ?_, ?_⟩
        · have := hcell _ _ e1
          rw [add_off] at this
          exact this
        · have := hcell _ _ e2
          rw [add_off] at this
          exact this
      · cases h
  · cases h
theorem linesO_ok {g : List Nat} {ns bs bl ls : List (List Nat)} (h : linesO g ns bs bl = some ls) {n0 : Int} {is : List Int} {bb : List Bool} {bad : List (Int × Int)} (hg : pcs v g = Lib.itoa n0) (hgs : Small g)
    (hns : ns.map (pcs v) = is.map (fun n => 32 :: Lib.itoa n)) (hnss : ∀ l ∈ ns, Small l) (hbs : bs.map (pcs v) = bb.map (fun b => 32 :: Lib.itoa (b2i b))) (hbss : ∀ l ∈ bs, Small l)
    (hbl : bl.map (pcs v) = bad.map (fun p => lineB [98, 97, 100] [p.1, p.2])) (hbls : ∀ l ∈ bl, Small l) :
    ∃ h f u r m0 m1 l0 l1 dn fl le d0 d1 dg, is = [h, f, u, r, m0, m1, l0, l1, dn, fl, le] ∧ bb = [d0, d1, dg] ∧ ls.map (fun l => strOf v (codeOf l)) = linesB ⟨n0, h, f, u, r, m0, m1, l0, l1, d0, d1, dg, dn, fl, le⟩ bad := by
  unfold linesO at h
  split at h
  · rename_i ph pf pu pr pm0 pm1 pl0 pl1 pdn pfl ple pd0 pd1 pdg
    cases h
    simp only [List.map_cons, List.map_nil] at hns hbs
    obtain ⟨h, is, rfl, h1, hns⟩ := map_cons_inv hns
    obtain ⟨f, is, rfl, h2, hns⟩ := map_cons_inv hns
    obtain ⟨u, is, rfl, h3, hns⟩ := map_cons_inv hns
    obtain ⟨r, is, rfl, h4, hns⟩ := map_cons_inv hns
    obtain ⟨m0, is, rfl, h5, hns⟩ := map_cons_inv hns
    obtain ⟨m1, is, rfl, h6, hns⟩ := map_cons_inv hns
    obtain ⟨l0, is, rfl, h7, hns⟩ := map_cons_inv hns
    obtain ⟨l1, is, rfl, h8, hns⟩ := map_cons_inv hns
    obtain ⟨dn, is, rfl, h9, hns⟩ := map_cons_inv hns
    obtain ⟨fl, is, rfl, h10, hns⟩ := map_cons_inv hns
    obtain ⟨le, is, rfl, h11, hns⟩ := map_cons_inv hns
    obtain rfl := map_nil_inv hns
    obtain ⟨d0, bb, rfl, b1, hbs⟩ := map_cons_inv hbs
    obtain ⟨d1, bb, rfl, b2, hbs⟩ := map_cons_inv hbs
    obtain ⟨dg, bb, rfl, b3, hbs⟩ := map_cons_inv hbs
    obtain rfl := map_nil_inv hbs
    refine ⟨h, f, u, r, m0, m1, l0, l1, dn, fl, le, d0, d1, dg, rfl, rfl, ?_⟩
    have S : ∀ l, l ∈ [ph, pf, pu, pr, pm0, pm1, pl0, pl1, pdn, pfl, ple] → Small l := hnss
    have T : ∀ l, l ∈ [pd0, pd1, pdg] → Small l := hbss
    have lit : ∀ (w : List Nat) (b : List UInt8), w = b.map (fun b => b.toNat + 1) → pcs v w = b := by
      intro w b e
      subst e
      unfold pcs
      rw [List.flatMap_map]
      induction b with
      | nil => rfl
      | cons b w ih =>
        have hb := b.toNat_lt
        rw [List.flatMap_cons, ih]
        unfold pieceOf
        rw [if_neg (by omega), if_pos (by omega)]
        simp
    have L0 : pcs v [104, 102, 111, 33] = [103, 101, 110, 32] := lit _ _ rfl
    have L1 : pcs v [117, 115, 102, 102] = [116, 114, 101, 101] := lit _ _ rfl
    have L2 : pcs v [115, 102, 113, 98, 106, 115, 116] = [114, 101, 112, 97, 105, 114, 115] := lit _ _ rfl
    have L3 : pcs v [110, 112, 119, 102, 101] = [109, 111, 118, 101, 100] := lit _ _ rfl
    have L4 : pcs v [109, 102, 103, 117] = [108, 101, 102, 116] := lit _ _ rfl
    have L5 : pcs v [101, 102, 98, 101] = [100, 101, 97, 100] := lit _ _ rfl
    have L6 : pcs v [116, 106, 109, 119, 102, 115] = [115, 105, 108, 118, 101, 114] := lit _ _ rfl
    have L7 : pcs v [103, 109, 118, 116, 105, 102, 116] = [102, 108, 117, 115, 104, 101, 115] := lit _ _ rfl
    have go : ∀ l, Small l → strOf v (codeOf l) = pcs v l := fun l hl => strOf_codeOf v l hl
    have W : ∀ (w : List Nat), w.all (fun d => Nat.blt d 1024) = true → Small w := small_word
    unfold linesB
    rw [List.map_append]
    congr 1
    · simp only [List.map_cons, List.map_nil]
      refine List.cons_eq_cons.2 ⟨?_, List.cons_eq_cons.2 ⟨?_, List.cons_eq_cons.2 ⟨?_, List.cons_eq_cons.2 ⟨?_, List.cons_eq_cons.2 ⟨?_, List.cons_eq_cons.2 ⟨?_, List.cons_eq_cons.2 ⟨?_, List.cons_eq_cons.2 ⟨?_, rfl⟩⟩⟩⟩⟩⟩⟩⟩
      · rw [go _ ((W _ rfl).app hgs), pcs_app, hg, L0]
      · rw [go _ ((((W _ rfl).app (S _ (by simp))).app (S _ (by simp))).app (S _ (by simp))), pcs_app, pcs_app, pcs_app, h1, h2, h3, L1]; rfl
      · rw [go _ ((W _ rfl).app (S _ (by simp))), pcs_app, h4, L2]; rfl
      · rw [go _ (((W _ rfl).app (S _ (by simp))).app (S _ (by simp))), pcs_app, pcs_app, h5, h6, L3]; rfl
      · rw [go _ (((W _ rfl).app (S _ (by simp))).app (S _ (by simp))), pcs_app, pcs_app, h7, h8, L4]; rfl
      · rw [go _ (((W _ rfl).app (T _ (by simp))).app (T _ (by simp))), pcs_app, pcs_app, b1, b2, L5]; rfl
      · rw [go _ (((W _ rfl).app (T _ (by simp))).app (S _ (by simp))), pcs_app, pcs_app, b3, h9, L6]; rfl
      · rw [go _ (((W _ rfl).app (S _ (by simp))).app (S _ (by simp))), pcs_app, pcs_app, h10, h11, L7]; rfl
    · rw [← hbl]
      exact List.map_congr_left fun l hl => go l (hbls l hl)
  · cases h
include hP hB in
theorem hLnO_ok (hw : WfR v) (ht : Pow10 C.w0) : @HdOK (toks v) C 7 hLnO := by
  letI := toks v
  intro Φ s w args us ret s' hR hA h
  have ht' := pow10_below ht hR.below hB
  unfold hLnO at h
  split at h
  · rename_i cs s0
    obtain ⟨u, rfl, h1⟩ := vrs1 hA
    obtain ⟨ul, rfl, hul⟩ := h1.agg_inv
    split at h
    · rename_i g hh f u r m0 m1 l0 l1 d0 d1 dg dn bad fl le hcs
      rw [hcs] at hul
      split at h
      · rename_i pg ns bs bl e1 e2 e3 e4
        split at h
        · rename_i ls e5
          split at h
          · rename_i i s1 hnew
            cases h
            obtain ⟨x0, r, rfl, y0, hul⟩ := hul.head
            obtain ⟨x1, r, rfl, y1, hul⟩ := hul.head
            obtain ⟨x2, r, rfl, y2, hul⟩ := hul.head
            obtain ⟨x3, r, rfl, y3, hul⟩ := hul.head
            obtain ⟨x4, r, rfl, y4, hul⟩ := hul.head
            obtain ⟨x5, r, rfl, y5, hul⟩ := hul.head
            obtain ⟨x6, r, rfl, y6, hul⟩ := hul.head
            obtain ⟨x7, r, rfl, y7, hul⟩ := hul.head
            obtain ⟨x8, r, rfl, y8, hul⟩ := hul.head
            obtain ⟨x9, r, rfl, y9, hul⟩ := hul.head
            obtain ⟨x10, r, rfl, y10, hul⟩ := hul.head
            obtain ⟨x11, r, rfl, y11, hul⟩ := hul.head
            obtain ⟨x12, r, rfl, y12, hul⟩ := hul.head
            obtain ⟨x13, r, rfl, y13, hul⟩ := hul.head
            obtain ⟨x14, r, rfl, y14, hul⟩ := hul.head
            obtain ⟨x15, r, rfl, y15, hul⟩ := hul.head
            cases hul.nil_inv
            obtain ⟨n0, rfl, a1, a2, a3⟩ := genP_ok hw e1 y0
            obtain ⟨is, c1, c2, c3, c4⟩ := nums_ok hw e2 (VRs.cons y1 (VRs.cons y2 (VRs.cons y3 (VRs.cons y4 (VRs.cons y5 (VRs.cons y6 (VRs.cons y7 (VRs.cons y8 (VRs.cons y12 (VRs.cons y14 (VRs.cons y15 (VRs.nil Φ))))))))))))
            obtain ⟨bb, d1', d2', d3'⟩ := bits_ok hw e3 (VRs.cons y9 (VRs.cons y10 (VRs.cons y11 (VRs.nil Φ))))
            obtain ⟨bd, a, c, rfl, k1, k2, k3, k4⟩ := badsOf_ok hw hR e4 y13
            obtain ⟨h', f', u', r', m0', m1', l0', l1', dn', fl', le', q0, q1, qg, rfl, rfl, hls⟩ := linesO_ok e5 a2 a3 c3 c4 d2' d3' k3 k4
            simp only [List.map_cons, List.map_nil, List.cons.injEq, and_true] at c1 d1'
            obtain ⟨rfl, rfl, rfl, rfl, rfl, rfl, rfl, rfl, rfl, rfl, rfl⟩ := c1
            obtain ⟨rfl, rfl, rfl⟩ := d1'
            refine ⟨⟨Tryz.f7, by rw [hP]; exact Tryz.func7, by kernel_rfl⟩, ?_⟩
            rw [hP]
            have hok : St.Ok ⟨n0, h', f', u', r', m0', m1', l0', l1', q0, q1, qg, dn', fl', le'⟩ := by
              refine ⟨a1, ?_, ?_, ?_, ?_, ?_, ?_, ?_, ?_, ?_, ?_, ?_⟩ <;> exact c2 _ (by simp)
            have hlen : ls.length = (linesB ⟨n0, h', f', u', r', m0', m1', l0', l1', q0, q1, qg, dn', fl', le'⟩ bd).length := by rw [← hls, List.length_map]
            refine (lines_calls hok k1 k2 ht').mono fun e w' hpost => ?_
            obtain ⟨hb, p, cap, cs', fr, z1, z2, z3, z4, z5, z6, z7⟩ := hpost
            rw [← hlen] at z2 z3
            obtain ⟨hRw, hS⟩ := hR.belowOf hb
            have hBs := hR.base
            have hOR : ∀ Φ2 : Ph, OR C Φ2 ⟨p, cs'.size, sizeP C.P 9⟩ (.cells 9 (ls.map fun l => strTok (codeOf l)) true 0 0) (.cells cs' 9 fr) := by
              intro Φ2
              refine ⟨rfl, rfl, rfl, ?_, (fun h => Bool.noConfusion h), fun k x hx => ?_, fun k a b => (z6 k a b).elim⟩
              · rw [List.length_map]; show ls.length ≤ cs'.size; omega
              · rw [List.getElem?_map] at hx
                cases hq : ls[k]? with
                | none => rw [hq] at hx; cases hx
                | some l =>
                  rw [hq] at hx
                  cases hx
                  have : (linesB ⟨n0, h', f', u', r', m0', m1', l0', l1', q0, q1, qg, dn', fl', le'⟩ bd)[k]? = some (strOf v (codeOf l)) := by rw [← hls, List.getElem?_map, hq]; rfl
                  exact ⟨_, z7 k _ this, VR.strTok Φ2 _⟩
            have hne : ∀ j o q, s.heap.get j = some o → Φ j = some q → q.b ≠ p := fun j o q hj hq => by
              have := (hR.lt j q hq).2
              omega
            obtain ⟨Φ', j1, j2, j3, j4, j5, j6, j7⟩ := hRw.reuse hnew (p := ⟨p, cs'.size, sizeP C.P 9⟩) z5 (by show C.B ≤ p; omega) (fun Φ2 _ => hOR Φ2) hne
            have hcap : 0 + cap * sizeP C.P 9 ≤ cs'.size := by
              have e9 : sizeP C.P 9 = 1 := by rw [hP]; exact size9
              rw [e9]; omega
            refine ⟨_, Φ', z2, .slice i 0 _ _ _ _ j2 (fun hh => by omega) (by omega) (fun _ => hcap), j3, ⟨j1, j7, j4, hb.size, fun k hk _ => hb.block k hk, fun j o q hj hq => ?_, fun j o hlt hj => ⟨o, j6 j o hlt hj⟩⟩⟩
            rcases j5 j o q hj hq with rfl | ⟨o', a, b⟩
            · exact .inl z1
            · exact .inr ⟨j, o', q, a, b, rfl⟩
          · cases h
        · cases h
      · cases h
    · cases h
  · cases h
end
end Go.Proofs.YtkacieekahfdmaaGreatDoor
set_option linter.unusedSectionVars false
namespace Go.Proofs.YtkacieekahfdmaaGreatDoor
open Go Go.RowKit Go.Abs
/-- two pieces that stand for two texts -/
def difD (a b : Nat) : Bool :=
  (Nat.ble 1 a && Nat.ble a 256 && Nat.ble 1 b && Nat.ble b 256 && (!(Nat.beq a b))) || (Nat.ble 259 a && Nat.ble a 267 && Nat.beq b (a + 20)) || (Nat.beq a 257 && Nat.beq b 258) || ((Nat.beq a 309 || Nat.beq a 310) && Nat.beq b (a + 10))
def difC : Nat → Nat → Nat → Bool
  | 0, _, _ => false
  | f + 1, c1, c2 => bif Nat.beq c1 0 || Nat.beq c2 0 then false else bif Nat.beq (c1 % 1024) (c2 % 1024) then difC f (c1 / 1024) (c2 / 1024) else Nat.beq (c1 / 1024) (c2 / 1024) && difD (c1 % 1024) (c2 % 1024)
def difL : List Nat → List Nat → Bool
  | a :: l, b :: k => difC 70 a b || difL l k
  | _, _ => false
def codesOf : List Value → Option (List Nat)
  | [] => some []
  | x :: l => (match codeV x, codesOf l with | some c, some r => some (c :: r) | _, _ => none)
def nEq : List Nat → List Nat → Bool
  | [], [] => true
  | a :: l, b :: k => Nat.beq a b && nEq l k
  | _, _ => false
noncomputable def hSlE : Hd
  | [.slice (some a) n _, .slice (some b) m _], s => bif Nat.ble n 100 && Nat.ble m 100 then (match loadC s a.block a.off n, loadC s b.block b.off m with
    | some l1, some l2 => (match codesOf l1, codesOf l2 with
      | some c1, some c2 => bif nEq c1 c2 then some (.bool true, s) else bif !(Nat.beq n m) then some (.bool false, s) else bif difL c1 c2 then some (.bool false, s) else none
      | _, _ => none)
    | _, _ => none) else none
  | _, _ => none
noncomputable def hWk : Hd
  | [], s => some (.bool true, s)
  | _, _ => none
section
variable {v : Val} {C : Ctx} (hP : C.P = Tryz.prog) (hB : C.B = C.w0.heap.size)
theorem below_dn (w : World) (k : Nat) : Below w.heap.size w (w.drewN k) := by
  refine ⟨rfl, by simp, rfl, by simp, fun j hj => by simp⟩
theorem wrap_ne (x : Int) (h : Rng x) : IntKind.i64.wrap (x + 1) ≠ x := by
  obtain ⟨h1, h2⟩ := h
  rw [IntKind.wrap_i64]
  omega
theorem difD_ok {q : Par} {w : World} (hw : WfX v q w) {a b : Nat} (h : difD a b = true) : pieceOf v a ≠ pieceOf v b := by
  unfold difD at h
  simp only [Bool.or_eq_true, Bool.and_eq_true, Bool.not_eq_true'] at h
  have no : ∀ i j, v.Y i ≠ v.Y j → pieceOf v (257 + i) ≠ pieceOf v (257 + j) := fun i j hne e => by
    rw [piece_no, piece_no] at e
    exact hne (Lib.itoa_inj e)
  rcases h with ((h | h) | h) | h
  · obtain ⟨⟨⟨⟨h1, h2⟩, h3⟩, h4⟩, h5⟩ := h
    have h1 := Nat.le_of_ble_eq_true h1
    have h2 := Nat.le_of_ble_eq_true h2
    have h3 := Nat.le_of_ble_eq_true h3
    have h4 := Nat.le_of_ble_eq_true h4
    intro e
    unfold pieceOf at e
    rw [if_neg (by omega), if_pos h2, if_neg (by omega), if_pos h4] at e
    have e := congrArg UInt8.toNat (List.cons.inj e).1
    simp at e
    have : a = b := by omega
    rw [this, Nat.beq_refl] at h5
    cases h5
  · obtain ⟨⟨h1, h2⟩, h3⟩ := h
    have h1 := Nat.le_of_ble_eq_true h1
    have h2 := Nat.le_of_ble_eq_true h2
    have h3 := Nat.eq_of_beq_eq_true h3
    subst h3
    have := no (a - 257) (a - 257 + 20) (by
      rw [← hw.plus _ (by omega) (by omega)]
      exact Ne.symm (wrap_ne _ (hw.r.rng _ (by omega))))
    rw [show 257 + (a - 257) = a by omega, show 257 + (a - 257 + 20) = a + 20 by omega] at this
    exact this
  · have h1 := Nat.eq_of_beq_eq_true h.1
    have h2 := Nat.eq_of_beq_eq_true h.2
    subst h1; subst h2
    exact no 0 1 (by rw [hw.gen1]; omega)
  · have h2 := Nat.eq_of_beq_eq_true h.2
    subst h2
    have e2 : v.Y 52 ≠ v.Y 62 := by
      rw [show 52 = 50 + 2 from rfl, hw.r.bit 2 (by omega), show 62 = 50 + 12 from rfl, hw.r.bit 12 (by omega), show 12 = 2 + 10 from rfl, hw.bn 2 (.inl rfl)]
      cases v.B 2 <;> simp
    have e3 : v.Y 53 ≠ v.Y 63 := by
      rw [show 53 = 50 + 3 from rfl, hw.r.bit 3 (by omega), show 63 = 50 + 13 from rfl, hw.r.bit 13 (by omega), show 13 = 3 + 10 from rfl, hw.bn 3 (.inr rfl)]
      cases v.B 3 <;> simp
    rcases h.1 with h | h
    · have := Nat.eq_of_beq_eq_true h
      subst this
      exact no 52 62 e2
    · have := Nat.eq_of_beq_eq_true h
      subst this
      exact no 53 63 e3
theorem difC_ok {q : Par} {w : World} (hw : WfX v q w) : ∀ (f c1 c2 : Nat), difC f c1 c2 = true → strOf v c1 ≠ strOf v c2 := by
  intro f
  induction f with
  | zero => intro c1 c2 h; cases h
  | succ f ih =>
    intro c1 c2 h
    unfold difC at h
    cases h0 : (Nat.beq c1 0 || Nat.beq c2 0) with
    | true => rw [h0] at h; cases h
    | false =>
      rw [h0] at h
      simp only [cond_false] at h
      have e1 : c1 = c1 % 1024 + 1024 * (c1 / 1024) := by omega
      have e2 : c2 = c2 % 1024 + 1024 * (c2 / 1024) := by omega
      rw [e1, e2, strOf_step v _ _ (by omega), strOf_step v _ _ (by omega)]
      cases hb : Nat.beq (c1 % 1024) (c2 % 1024) with
      | true =>
        rw [hb] at h
        rw [Nat.eq_of_beq_eq_true hb]
        intro e
        exact ih _ _ h (List.append_cancel_left e)
      | false =>
        rw [hb] at h
        simp only [cond_false, Bool.and_eq_true] at h
        rw [Nat.eq_of_beq_eq_true h.1]
        intro e
        exact difD_ok hw h.2 (List.append_cancel_right e)
theorem difL_ok {q : Par} {w : World} (hw : WfX v q w) : ∀ (l k : List Nat), difL l k = true → l.map (strOf v) ≠ k.map (strOf v) := by
  intro l
  induction l with
  | nil => intro k h; cases h
  | cons a l ih =>
    intro k h
    cases k with
    | nil => cases h
    | cons b k =>
      unfold difL at h
      simp only [Bool.or_eq_true] at h
      intro e
      simp only [List.map_cons, List.cons.injEq] at e
      rcases h with h | h
      · exact difC_ok hw _ _ _ h e.1
      · exact ih k h e.2
theorem nEq_ok : ∀ {l k : List Nat}, nEq l k = true → l = k := by
  intro l
  induction l with
  | nil => intro k h; cases k with | nil => rfl | cons _ _ => cases h
  | cons a l ih =>
    intro k h
    cases k with
    | nil => cases h
    | cons b k =>
      simp only [nEq, Bool.and_eq_true] at h
      rw [Nat.eq_of_beq_eq_true h.1, ih h.2]
theorem codesOf_ok {Φ : Ph} : ∀ {l us : List Value} {cs : List Nat}, codesOf l = some cs → @VRs (toks v) Φ l us → us = cs.map fun c => .string ⟨⟨strOf v c⟩⟩ := by
  letI := toks v
  intro l
  induction l with
  | nil => intro us cs h hx; cases h; exact hx.nil_inv
  | cons x l ih =>
    intro us cs h hx
    obtain ⟨u, us', rfl, h1, h2⟩ := hx.head
    unfold codesOf at h
    split at h
    · rename_i c r hc hr
      cases h
      rw [codeV_ok hc h1, ih hr h2]; rfl
    · cases h
include hP in
theorem hSlE_ok {q : Par} {w0 : World} (hw : WfX v q w0) : @HdOK (toks v) C 17 hSlE := by
  letI := toks v
  intro Φ s w args us ret s' hR hA h
  unfold hSlE at h
  split at h
  · rename_i s0 a n c b m d
    obtain ⟨u1, u2, rfl, h1, h2⟩ := vrs2 hA
    cases hnm : (Nat.ble n 100 && Nat.ble m 100) with
    | false => rw [hnm] at h; cases h
    | true =>
    rw [hnm] at h
    simp only [Bool.and_eq_true] at hnm
    have hn1 := Nat.le_of_ble_eq_true hnm.1
    have hn2 := Nat.le_of_ble_eq_true hnm.2
    simp only [cond_true] at h
    split at h
    · rename_i l1 l2 e1 e2
      split at h
      · rename_i c1 c2 g1 g2
        obtain ⟨_, p1, cap1, hp1, hu1, _⟩ := h1.slice_inv
        obtain ⟨_, p2, cap2, hp2, hu2, _⟩ := h2.slice_inv
        obtain ⟨us1, hus1, hl1, hc1, _⟩ := loadC_ok hR e1 hp1
        obtain ⟨us2, hus2, hl2, hc2, _⟩ := loadC_ok hR e2 hp2
        have k1 := codesOf_ok g1 hus1
        have k2 := codesOf_ok g2 hus2
        have m1 : c1.length = n := by have := hus1.1; rw [k1, List.length_map] at this; omega
        have m2 : c2.length = m := by have := hus2.1; rw [k2, List.length_map] at this; omega
        have key := Tryz.slices_Equal_string p1.b a.off n cap1 p2.b b.off m cap2 (c1.map fun c => ⟨⟨strOf v c⟩⟩) (c2.map fun c => ⟨⟨strOf v c⟩⟩) w (by rw [List.length_map]; omega) (by rw [List.length_map]; omega) (by omega) (by omega)
          (fun j hj => by
            rw [List.length_map] at hj
            have := hc1 j (.string ⟨⟨strOf v c1[j]⟩⟩) (by rw [k1, List.getElem?_map, List.getElem?_eq_getElem hj]; rfl)
            rw [add_off] at this
            rw [this, List.getD_eq_getElem?_getD, List.getElem?_map, List.getElem?_eq_getElem hj]; rfl)
          (fun j hj => by
            rw [List.length_map] at hj
            have := hc2 j (.string ⟨⟨strOf v c2[j]⟩⟩) (by rw [k2, List.getElem?_map, List.getElem?_eq_getElem hj]; rfl)
            rw [add_off] at this
            rw [this, List.getD_eq_getElem?_getD, List.getElem?_map, List.getElem?_eq_getElem hj]; rfl)
        rw [List.take_of_length_le (by rw [List.length_map]; omega), List.take_of_length_le (by rw [List.length_map]; omega)] at key
        have fin : ∀ r : Bool, decide ((c1.map fun c => (⟨⟨strOf v c⟩⟩ : ByteArray)) = c2.map fun c => ⟨⟨strOf v c⟩⟩) = r → Calls C.P 17 ⟨[u1, u2]⟩ w (fun e w' => ∃ u Φ', e = .returned u ∧ VR Φ' (.bool r) u ∧ Rel C Φ' s w' ∧ Stp Φ s w Φ' s w') := by
          intro r hr
          rw [hP, hu1, hu2]
          refine key.mono fun e w' ⟨he, k, hw'⟩ => ?_
          subst hw'
          obtain ⟨z1, z2⟩ := hR.belowOf (below_dn w k)
          exact ⟨_, Φ, by rw [he, hr], .bool Φ r, z1, z2⟩
        have inj : (c1.map fun c => (⟨⟨strOf v c⟩⟩ : ByteArray)) = (c2.map fun c => ⟨⟨strOf v c⟩⟩) → c1.map (strOf v) = c2.map (strOf v) := by
          intro e
          have := congrArg (List.map fun b : ByteArray => b.data.toList) e
          simpa [List.map_map, Function.comp_def] using this
        refine ⟨⟨Tryz.f17, by rw [hP]; exact Tryz.func17, by kernel_rfl⟩, ?_⟩
        cases hq : nEq c1 c2 with
        | true =>
          rw [hq] at h
          cases h
          have := nEq_ok hq
          subst this
          exact fin true (by simp)
        | false =>
          rw [hq] at h
          simp only [cond_false] at h
          cases hz : (!(Nat.beq n m)) with
          | true =>
            rw [hz] at h
            cases h
            refine fin false (decide_eq_false fun e => ?_)
            have := congrArg List.length e
            rw [List.length_map, List.length_map, m1, m2] at this
            rw [this, Nat.beq_refl] at hz
            cases hz
          | false =>
            rw [hz] at h
            simp only [cond_false] at h
            cases hd : difL c1 c2 with
            | true =>
              rw [hd] at h
              cases h
              exact fin false (decide_eq_false fun e => difL_ok hw _ _ hd (inj e))
            | false => rw [hd] at h; cases h
      · cases h
    · cases h
  · cases h
include hP hB in
theorem hWk_ok (h2 : 2 < C.w0.heap.size) (hg : C.w0.cell? ⟨2, 63, none⟩ = some (.int .u8 6)) : @HdOK (toks v) C 8 hWk := by
  letI := toks v
  intro Φ s w args us ret s' hR hA h
  unfold hWk at h
  split at h
  · cases h
    cases hA.nil_inv
    refine ⟨⟨Tryz.f8, by rw [hP]; exact Tryz.func8, by kernel_rfl⟩, ?_⟩
    refine calls_pure hR (.bool Φ true) ?_
    rw [hP]
    have hs : 2 < w.heap.size := by have := hR.base; omega
    refine wakes_calls w hs ?_
    rw [hR.below.cell (p := ⟨2, 63, none⟩) (by rw [hB]; exact h2)]
    exact hg
  · cases h
end
end Go.Proofs.YtkacieekahfdmaaGreatDoor
set_option linter.unusedSectionVars false
namespace Go.Abs
open Go Go.RowKit
/-- the first parts of a sequence, one by one -/
noncomputable def codeK (E : Env) (call : CallF) : Nat → Code → Fr → AS → Option (Fr × AS)
  | 0, _, fr, s => some (fr, s)
  | k + 1, .seq a b, fr, s => (match code E call a fr s with
    | some (.norm, fr', s') => codeK E call k b fr' s'
    | _ => none)
  | _, _, _, _ => none
def dropS : Nat → Code → Code
  | 0, c => c
  | k + 1, .seq _ b => dropS k b
  | _, c => c
section
variable [Toks] {C : Ctx} (ok : POK C) {call : CallF} (hcall : CallOK C call)
include ok hcall in
theorem codeK_ok {N : Nat} : ∀ (k : Nat) (c : Code) {ds : List Deferred} {Φ : Ph} {s : AS} {w : World} {fr : Fr} {a : Act} {fr' : Fr} {s' : AS} {Q : Exit → Act → World → Prop}, fr.n < 16000000 → N ≤ w.heap.size → Rel C Φ s w → FR ds Φ fr a → DOK N Φ s w ds →
    codeK C.E call k c fr s = some (fr', s') →
    (∀ a' w' Φ' ds', FR ds' Φ' fr' a' → DOK N Φ' s' w' ds' → fr'.n = fr.n → Rel C Φ' s' w' → Stp Φ s w Φ' s' w' → (dropS k c).wp C.P Q a' w') → c.wp C.P Q a w := by
  intro k
  induction k with
  | zero =>
    intro c ds Φ s w fr a fr' s' Q hn hN hR hF hD h hQ
    simp only [codeK, Option.some.injEq, Prod.mk.injEq] at h
    obtain ⟨rfl, rfl⟩ := h
    exact hQ a w Φ ds hF hD rfl hR (Stp.refl hR)
  | succ k ih =>
    intro c ds Φ s w fr a fr' s' Q hn hN hR hF hD h hQ
    cases c <;> simp only [codeK] at h <;> (try (cases h; done))
    rename_i c1 c2
    split at h
    · rename_i fr1 s1 h1
      refine wp_seq (code_ok ok hcall c1 hn hN hR hF hD h1 ?_)
      intro a1 w1 Φ1 ds1 g1 gd g2 g3 g4
      show (Exit.then _ Q) .normal a1 w1
      refine ih c2 (by rw [g2]; exact hn) (Nat.le_trans hN g4.sz) g3 g1 gd h ?_
      intro a2 w2 Φ2 ds2 k1 kd k2 k3 k4
      exact hQ a2 w2 Φ2 ds2 k1 kd (by rw [k2, g2]) k3 (g4.trans k4)
    · cases h

end
/-- a function whose body is run in two pieces, each told other things -/
theorem calls_cut [Toks] {C : Ctx} {E1 : Env} {call0 call1 : CallF} (ok0 : POK C) (h0 : CallOK C call0) (ok1 : POK { C with E := E1 }) (h1 : CallOK { C with E := E1 } call1) {f : FuncId} {fn : Func} {c : Code} (hfn : C.P.funcs[f]? = some fn) (hc : fn.body = some c)
    {r k : Nat} (hres : fn.results = #[.tmp r]) {Φ : Ph} {s : AS} {w : World} {args us : List Value} (hl : args.length ≤ fn.ntmps) (hR : Rel C Φ s w) (hA : VRs Φ args us) {fr1 fr2 : Fr} {s1 s2 : AS}
    (hpre : codeK C.E call0 k c { n := fn.ntmps, t := Tr.ofList args } s = some (fr1, s1)) (hsuf : code E1 call1 (dropS k c) fr1 s1 = some (.ret, fr2, s2)) :
    Calls C.P f ⟨us⟩ w (fun e w' => ∃ u Φ', e = .returned u ∧ VR Φ' (fr2.get r) u ∧ Rel C Φ' s2 w' ∧ Stp Φ s w Φ' s2 w') := by
  have hsmall := ok0.small f fn hfn
  have hF := init_frame hsmall hl hA
  rw [← callsIn_wide (n := 1)]
  refine callsIn_of_wp_marks (F := Fence.wide) (n := 1) hfn hc trivial (wpIn_wide.2 ?_)
  refine codeK_ok ok0 h0 (N := w.heap.size) k c hsmall (Nat.le_refl _) hR hF (DOK.nil _ _ _ _) hpre ?_
  intro a' w' Φ' ds' g1 gd gn g3 g4
  have g3' : Rel { C with E := E1 } Φ' s1 w' := g3.env
  refine code_ok (C := { C with E := E1 }) ok1 h1 (N := w.heap.size) (dropS k c) (by rw [gn]; exact hsmall) g4.sz g3' g1 gd hsuf ?_
  intro a2 w2 Φ2 ds2 k1 kd k2 k3 k4
  have hleave : LeavesInM Fence.wide 1 C.P fn a2.tmps (fun e w' => ∃ u Φ', e = .returned u ∧ VR Φ' (fr2.get r) u ∧ Rel C Φ' s2 w' ∧ Stp Φ s w Φ' s2 w') ds2 .returning w2 := by
    refine leaves_of (C := { C with E := E1 }) (Φ := Φ2) (s := s2) (Φ0 := Φ) (s0 := s) (w0 := w) hR.base (fun w3 q3 q4 => ?_) ds2 w2 k3 (g4.trans k4) kd
    have hr : (results fn a2.tmps).run C.P w3 = .ok (a2.tmps.getD r undef) w3 := by
      unfold results
      rw [hres]
      simp
    exact ⟨_, hr, _, Φ2, rfl, k1.val r, q3.unenv, q4⟩
  have he := k1.defers
  show LeavesInM _ _ _ _ _ _ a2.defers _ _
  rw [he]; exact hleave
end Go.Abs
namespace Go.Proofs.YtkacieekahfdmaaGreatDoor
open Go Go.RowKit Go.Abs
noncomputable def hdO (f : Nat) : Option Hd := bif Nat.beq f 6 then some hItoaT else bif Nat.beq f 4 then some hWordT else bif Nat.beq f 7 then some hLnO else bif Nat.beq f 8 then some hWk else bif Nat.beq f 17 then some hSlE else none
noncomputable def eO (q : Par) : Env := envOf kT kF hdO (hookO q)
noncomputable def body3 : Code := match Tryz.f3.body with | some c => c | none => .skip
def xTok : Value := .agg ⟨[inTok 2, inTok 3, inTok 4, inTok 5, inTok 6, inTok 7, inTok 8, inTok 9, inTok 10]⟩
noncomputable def preRun (q : Par) : Option (Fr × AS) := codeK (eO q) (run (eO q) 10) 10 body3 { n := 302, t := Tr.ofList [xTok, .chan (some 5), .chan (some 338)] } { heap := .nil, next := 0 }
noncomputable def sufOk (q : Par) (fr : Fr) (s : AS) : Bool :=
  match code (eO q) (run (eO q) 10) (dropS 10 body3) fr s with
  | some (.ret, fr', _) => (match fr'.get 6 with | .bool b => b | _ => false)
  | _ => false
def rbs : List (Nat × Nat) := [(0, 0), (1, 0), (2, 0), (3, 0), (4, 0), (5, 0), (5, 1), (6, 0), (6, 1), (7, 0), (8, 0), (9, 0)]
noncomputable def chkO (n : Nat) (d : Bool) : Bool :=
  match preRun ⟨n, d, 10, 0⟩ with
  | some (fr, s) => rbs.all fun x => sufOk ⟨n, d, x.1, x.2⟩ fr s
  | none => false
end Go.Proofs.YtkacieekahfdmaaGreatDoor
