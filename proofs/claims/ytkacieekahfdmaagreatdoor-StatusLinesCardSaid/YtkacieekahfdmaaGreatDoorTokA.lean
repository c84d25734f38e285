import Derived.Test.YtkacieekahfdmaaGreatDoorWakesA
import Derived.Test.YtkacieekahfdmaaGreatDoorShelfA
import Derived.Lib.ItoaLen
set_option linter.unusedSimpArgs false
set_option linter.unusedVariables false
set_option linter.unusedSectionVars false
set_option linter.unusedSectionVars false
namespace Go.Proofs.YtkacieekahfdmaaGreatDoor
open Go Go.RowKit Go.Abs
/-! tokens: numbers, texts (lists of pieces, written as one number), bools, a slice, pointers to its elements -/
structure Val where
  Y : Nat → Int
  B : Nat → Bool
  S : Nat → Value
  A : Nat → Addr
  hS : ∀ i, ∃ a n c, S i = .slice a n c
def pieceOf (v : Val) (d : Nat) : List UInt8 := if d = 0 then [] else if d ≤ 256 then [UInt8.ofNat (d - 1)] else Lib.itoa (v.Y (d - 257))
def strOf (v : Val) (c : Nat) : List UInt8 := if h : c = 0 then [] else pieceOf v (c % 1024) ++ strOf v (c / 1024)
termination_by c
decreasing_by exact Nat.div_lt_self (by omega) (by omega)
def tokVal (v : Val) (k : Nat) : Option Value :=
  match k % 8 with
  | 0 => some (.int .i64 (v.Y (k / 8)))
  | 1 => some (.int .u64 (v.Y (k / 8)))
  | 2 => some (.int .u8 (v.Y (k / 8)))
  | 3 => some (.string ⟨⟨strOf v (k / 8)⟩⟩)
  | 4 => some (.bool (v.B (k / 8)))
  | 5 => some (v.S (k / 8))
  | 6 => some (.pointer (some (v.A (k / 8))))
  | _ => none
theorem tokVal_plain (v : Val) (k : Nat) (x : Value) (h : tokVal v k = some x) : (∃ kk n, x = .int kk n) ∨ (∃ b, x = .string b) ∨ (∃ b, x = .bool b) ∨ (∃ a, x = .pointer a) ∨ ∃ a n c, x = .slice a n c := by
  unfold tokVal at h
  split at h <;> first
    | (cases h; exact .inl ⟨_, _, rfl⟩)
    | (cases h; exact .inr (.inl ⟨_, rfl⟩))
    | (cases h; exact .inr (.inr (.inl ⟨_, rfl⟩)))
    | (cases h; exact .inr (.inr (.inr (.inl ⟨_, rfl⟩))))
    | (cases h; obtain ⟨a, n, c, e⟩ := v.hS (k / 8); exact .inr (.inr (.inr (.inr ⟨a, n, c, e⟩))))
    | cases h
@[reducible] def toks (v : Val) : Toks := ⟨tokVal v, tokVal_plain v⟩

/-! texts -/
def catF : Nat → Nat → Nat → Option Nat
  | 0, c1, c2 => bif Nat.beq c1 0 then some c2 else none
  | f + 1, c1, c2 => bif Nat.beq c1 0 then some c2 else (match catF f (c1 / 1024) c2 with | some c => some (c1 % 1024 + 1024 * c) | none => none)
def litCode : List UInt8 → Nat
  | [] => 0
  | b :: l => b.toNat + 1 + 1024 * litCode l
theorem strOf_zero (v : Val) : strOf v 0 = [] := by unfold strOf; simp
theorem strOf_step (v : Val) (d c : Nat) (hd : d < 1024) : strOf v (d + 1024 * c) = pieceOf v d ++ strOf v c := by
  by_cases h : d + 1024 * c = 0
  · have h1 : d = 0 := by omega
    have h2 : c = 0 := by omega
    subst h1; subst h2
    rw [show 0 + 1024 * 0 = 0 from rfl, strOf_zero]
    simp [pieceOf]
  · rw [strOf.eq_def v (d + 1024 * c), dif_neg h]
    rw [show (d + 1024 * c) % 1024 = d by omega, show (d + 1024 * c) / 1024 = c by omega]
theorem catF_ok (v : Val) : ∀ (f c1 c2 c : Nat), catF f c1 c2 = some c → strOf v c = strOf v c1 ++ strOf v c2 := by
  intro f
  induction f with
  | zero =>
    intro c1 c2 c h
    unfold catF at h
    cases hb : Nat.beq c1 0 with
    | true => rw [hb] at h; cases h; rw [Nat.eq_of_beq_eq_true hb, strOf_zero]; rfl
    | false => rw [hb] at h; cases h
  | succ f ih =>
    intro c1 c2 c h
    unfold catF at h
    cases hb : Nat.beq c1 0 with
    | true => rw [hb] at h; cases h; rw [Nat.eq_of_beq_eq_true hb, strOf_zero]; rfl
    | false =>
      rw [hb] at h
      simp only [cond_false] at h
      split at h
      · rename_i c' hc
        cases h
        rw [strOf_step v _ _ (by omega), ih _ _ _ hc, ← List.append_assoc, ← strOf_step v _ _ (by omega)]
        congr 2
        omega
      · cases h
theorem litCode_ok (v : Val) : ∀ l : List UInt8, strOf v (litCode l) = l := by
  intro l
  induction l with
  | nil => exact strOf_zero v
  | cons b l ih =>
    have hb := b.toNat_lt
    show strOf v (b.toNat + 1 + 1024 * litCode l) = _
    rw [strOf_step v _ _ (by omega), ih]
    unfold pieceOf
    rw [if_neg (by omega), if_pos (by omega)]
    simp
theorem strOf_len (v : Val) (hl : ∀ i, (Lib.itoa (v.Y i)).length ≤ 21) : ∀ (n c : Nat), c < 1024 ^ n → (strOf v c).length ≤ 21 * n := by
  intro n
  induction n with
  | zero => intro c h; have : c = 0 := by omega
            subst this; rw [strOf_zero]; simp
  | succ n ih =>
    intro c h
    have h1 : c / 1024 < 1024 ^ n := by
      rw [Nat.div_lt_iff_lt_mul (by omega)]
      rw [Nat.pow_succ] at h; exact h
    have h2 := ih _ h1
    have e : c = c % 1024 + 1024 * (c / 1024) := by omega
    rw [e, strOf_step v _ _ (by omega), List.length_append]
    have : (pieceOf v (c % 1024)).length ≤ 21 := by
      unfold pieceOf
      split
      · simp
      · split
        · simp
        · exact hl _
    omega
def codeV : Value → Option Nat
  | .string b => some (litCode b.data.toList)
  | .chan (some k) => bif Nat.beq (k % 8) 3 then some (k / 8) else none
  | _ => none
def strTok (c : Nat) : Value := .chan (some (8 * c + 3))
def inTok (i : Nat) : Value := .chan (some (8 * i))
section
variable {v : Val}
theorem tok_inv {Φ : Ph} {k : Nat} {u : Value} (h : @VR (toks v) Φ (.chan (some k)) u) : tokVal v k = some u := by
  cases h with
  | flat _ h => simp [Abs.flat] at h
  | tok _ _ h => exact h
theorem VR.strTok (Φ : Ph) (c : Nat) : @VR (toks v) Φ (strTok c) (.string ⟨⟨strOf v c⟩⟩) :=
  @VR.tok (toks v) Φ _ _ (by show tokVal v (8 * c + 3) = _; unfold tokVal; rw [show (8 * c + 3) % 8 = 3 by omega, show (8 * c + 3) / 8 = c by omega]; rfl)
theorem VR.inTok (Φ : Ph) (i : Nat) : @VR (toks v) Φ (inTok i) (.int .i64 (v.Y i)) :=
  @VR.tok (toks v) Φ _ _ (by show tokVal v (8 * i) = _; unfold tokVal; rw [show (8 * i) % 8 = 0 by omega, show (8 * i) / 8 = i by omega]; rfl)
theorem codeV_ok {Φ : Ph} {x u : Value} {c : Nat} (h : codeV x = some c) (hx : @VR (toks v) Φ x u) : u = .string ⟨⟨strOf v c⟩⟩ := by
  letI := toks v
  unfold codeV at h
  split at h
  · rename_i b
    cases h
    rw [litCode_ok]
    exact hx.str_inv
  · rename_i k
    cases hb : Nat.beq (k % 8) 3 with
    | true =>
      rw [hb] at h
      cases h
      have := tok_inv hx
      unfold tokVal at this
      rw [Nat.eq_of_beq_eq_true hb] at this
      cases this; rfl
    | false => rw [hb] at h; cases h
  · cases h
end

/-! what the operations answer at tokens: texts, the slice -/
noncomputable def hkAdd (x y : Value) : Option Value :=
  match codeV x, codeV y with
  | some c1, some c2 => bif Nat.blt c1 (1024 ^ 60) then bif Nat.blt c2 (1024 ^ 60) then (match catF 60 c1 c2 with | some c => some (strTok c) | none => none) else none else none
  | _, _ => none
noncomputable def hookS (n : Nat) : Op → List Value → Option Value
  | .binOp .add _ _ _ _, [x, y] => hkAdd x y
  | .binOp .neq _ _ _ _, [.chan (some a), .chan (some b)] => bif Nat.beq a b then bif Nat.beq (a % 8) 3 then some (.bool false) else none else none
  | .indexAddr t _ _, [.chan (some 13), .int .i64 (.ofNat k)] => bif Nat.beq t 23 || Nat.beq t 27 then bif Nat.blt k n then some (.chan (some (8 * k + 6))) else none else none
  | .load t _, [.chan (some a)] => bif Nat.beq t 25 || Nat.beq t 34 then bif Nat.beq (a % 8) 6 && Nat.blt (a / 8) n then some (.agg ⟨[inTok (100 + 2 * (a / 8)), inTok (101 + 2 * (a / 8))]⟩) else none else none
  | .call { callee := .builtin .len, args := _, argTypes := ts }, [.chan (some 13)] => (match ts.toList with | [t] => bif Nat.beq t 23 || Nat.beq t 27 then some (.int .i64 n) else none | _ => none)
  | _, _ => none
/-- what these tokens stand for -/
structure WfS (v : Val) (n : Nat) (w : World) : Prop where
  len : ∀ i, (Lib.itoa (v.Y i)).length ≤ 21
  sl : ∃ a c, v.S 1 = .slice a n c
  at' : ∀ k, k < n → ∃ b off c, v.S 1 = .slice (some ⟨b, off, none⟩) n c ∧ v.A k = ⟨b, off + k * 2, none⟩ ∧ b < w.heap.size ∧ w.cell? ⟨b, off + k * 2, none⟩ = some (.int .i64 (v.Y (100 + 2 * k))) ∧ w.cell? ⟨b, off + k * 2 + 1, none⟩ = some (.int .i64 (v.Y (101 + 2 * k)))
end Go.Proofs.YtkacieekahfdmaaGreatDoor
set_option linter.unusedSectionVars false
namespace Go.Proofs.YtkacieekahfdmaaGreatDoor
open Go Go.RowKit Go.Abs
section
variable {v : Val} {C : Ctx} (hP : C.P = Tryz.prog)
theorem vrs2 {Φ : Ph} {x y : Value} {us : List Value} (h : @VRs (toks v) Φ [x, y] us) : ∃ a b, us = [a, b] ∧ @VR (toks v) Φ x a ∧ @VR (toks v) Φ y b := by
  letI := toks v
  obtain ⟨a, r, rfl, h1, h⟩ := h.head
  obtain ⟨b, r, rfl, h2, h⟩ := h.head
  cases h.nil_inv
  exact ⟨a, b, rfl, h1, h2⟩
theorem vrs1 {Φ : Ph} {x : Value} {us : List Value} (h : @VRs (toks v) Φ [x] us) : ∃ a, us = [a] ∧ @VR (toks v) Φ x a := by
  letI := toks v
  obtain ⟨a, r, rfl, h1, h⟩ := h.head
  cases h.nil_inv
  exact ⟨a, rfl, h1⟩
theorem blt_of {a b : Nat} (h : Nat.blt a b = true) : a < b := blt_lt h
theorem run_strAdd {P : Program} {w : World} (t : TypeId) (x y : Operand) (a b : List UInt8) (h : a.length + b.length ≤ 1000000000) :
    (do eqGuard .add t x y (.string ⟨⟨a⟩⟩) (.string ⟨⟨b⟩⟩); binOp .add t (.string ⟨⟨a⟩⟩) (.string ⟨⟨b⟩⟩) : Sem Value).run P w = .ok (.string ⟨⟨a ++ b⟩⟩) w := by
  letI : Toks := ⟨fun _ => none, fun _ _ h => by cases h⟩
  have hg : (eqGuard .add t x y (.string ⟨⟨a⟩⟩) (.string ⟨⟨b⟩⟩)).run P w = .ok () w := by simp [eqGuard]
  have h2 : aStr .add a b = some (mkStr (a ++ b)) := by unfold aStr; simp only; rw [if_pos h]
  have r := aStr_ok (op := .add) (t := t) (a := ⟨⟨a⟩⟩) (b := ⟨⟨b⟩⟩) (v := mkStr (a ++ b)) h2 P w
  simp [hg, r, mkStr]
theorem run_strNeq {P : Program} {w : World} (t : TypeId) (x y : Operand) (a : List UInt8) :
    (do eqGuard .neq t x y (.string ⟨⟨a⟩⟩) (.string ⟨⟨a⟩⟩); binOp .neq t (.string ⟨⟨a⟩⟩) (.string ⟨⟨a⟩⟩) : Sem Value).run P w = .ok (.bool false) w := by
  letI : Toks := ⟨fun _ => none, fun _ _ h => by cases h⟩
  have hg : (eqGuard .neq t x y (.string ⟨⟨a⟩⟩) (.string ⟨⟨a⟩⟩)).run P w = .ok () w := by simp [eqGuard]
  have hb : beqL a a = true := by rw [← beqL_beq]; simp
  have h2 : aStr .neq a a = some (.bool false) := by unfold aStr; simp only; rw [hb]; rfl
  have r := aStr_ok (op := .neq) (t := t) (a := ⟨⟨a⟩⟩) (b := ⟨⟨a⟩⟩) (v := .bool false) h2 P w
  simp [hg, r]
theorem siz25 (w : World) : (sizeOf 25).run Tryz.prog w = .ok 2 w := by kernel_rfl
theorem siz34 (w : World) : (sizeOf 34).run Tryz.prog w = .ok 2 w := by kernel_rfl
theorem agg25 (w : World) : (isAgg 25).run Tryz.prog w = .ok true w := by kernel_rfl
theorem agg34 (w : World) : (isAgg 34).run Tryz.prog w = .ok true w := by kernel_rfl
theorem run_load2 (t : TypeId) (hs : ∀ w, (sizeOf t).run Tryz.prog w = .ok 2 w) (ha : ∀ w, (isAgg t).run Tryz.prog w = .ok true w) (w : World) (b off : Nat) (c0 c1 : Value) (h0 : w.cell? ⟨b, off, none⟩ = some c0) (h1 : w.cell? ⟨b, off + 1, none⟩ = some c1) :
    (loadVar t ⟨b, off, none⟩).run Tryz.prog w = .ok (.agg #[c0, c1]) w := by
  letI : Toks := ⟨fun _ => none, fun _ _ h => by cases h⟩
  have e0 : Addr.add ⟨b, off, none⟩ 0 = ⟨b, off, none⟩ := by rw [add_off]; rfl
  have e1 : Addr.add ⟨b, off, none⟩ 1 = ⟨b, off + 1, none⟩ := add_off b off 1
  have hl := run_loadCells_list (P := Tryz.prog) (w := w) ⟨b, off, none⟩ [c0, c1] (fun j v hv => by
    match j, hv with
    | 0, hv => cases hv; rw [e0]; exact h0
    | 1, hv => cases hv; rw [e1]; exact h1)
  simp only [loadVar, Sem.run_bind, ha, Result.andThen_ok, hs, if_true]
  rw [show ([c0, c1] : List Value).length = 2 from rfl] at hl
  simp [hl]
include hP in
theorem hookS_ok {n : Nat} (hw : WfS v n C.w0) (hB : C.B = C.w0.heap.size) : @HookOK (toks v) C (hookS n) := by
  letI := toks v
  intro op vs r h Φ s ev w o hR ho hV
  obtain ⟨dst, oop, ty, pos, after, guard⟩ := o
  simp only at ho
  subst ho
  unfold hookS at h
  split at h
  · rename_i t x y yt p q
    obtain ⟨a, b, e, h1, h2⟩ := vrs2 hV
    simp only [Op.operands, List.map_cons, List.map_nil, List.cons.injEq, and_true] at e
    obtain ⟨e1, e2⟩ := e
    unfold hkAdd at h
    split at h
    · rename_i c1 c2 hc1 hc2
      cases hb1 : Nat.blt c1 (1024 ^ 60) with
      | false => rw [hb1] at h; cases h
      | true =>
        cases hb2 : Nat.blt c2 (1024 ^ 60) with
        | false => rw [hb1, hb2] at h; cases h
        | true =>
          rw [hb1, hb2] at h
          simp only [cond_true] at h
          split at h
          · rename_i c hc
            cases h
            cases codeV_ok hc1 h1
            cases codeV_ok hc2 h2
            have l1 := strOf_len v hw.len 60 c1 (blt_of hb1)
            have l2 := strOf_len v hw.len 60 c2 (blt_of hb2)
            refine ⟨.string ⟨⟨strOf v c⟩⟩, ?_, VR.strTok Φ c⟩
            have r1 := run_strAdd (P := C.P) (w := w) t x y (strOf v c1) (strOf v c2) (by omega)
            rw [← catF_ok v _ _ _ _ hc] at r1
            simp only [execOp, Sem.run_bind] at r1 ⊢
            rw [e1, e2, r1]; rfl
          · cases h
    · cases h
  · rename_i t x y yt p q
    obtain ⟨a, b, e, h1, h2⟩ := vrs2 hV
    simp only [Op.operands, List.map_cons, List.map_nil, List.cons.injEq, and_true] at e
    obtain ⟨e1, e2⟩ := e
    cases hb1 : Nat.beq p q with
    | false => rw [hb1] at h; cases h
    | true =>
      cases hb2 : Nat.beq (p % 8) 3 with
      | false => rw [hb1, hb2] at h; cases h
      | true =>
        rw [hb1, hb2] at h
        cases h
        have := Nat.eq_of_beq_eq_true hb1
        subst this
        have k1 := tok_inv h1
        have k2 := tok_inv h2
        unfold tokVal at k1 k2
        rw [Nat.eq_of_beq_eq_true hb2] at k1 k2
        cases k1; cases k2
        refine ⟨.bool false, ?_, .bool Φ _⟩
        have r1 := run_strNeq (P := C.P) (w := w) t x y (strOf v (p / 8))
        simp only [execOp, Sem.run_bind] at r1 ⊢
        rw [e1, e2, r1]; rfl
  · rename_i t x y k
    obtain ⟨a, b, e, h1, h2⟩ := vrs2 hV
    simp only [Op.operands, List.map_cons, List.map_nil, List.cons.injEq, and_true] at e
    obtain ⟨e1, e2⟩ := e
    cases hb1 : (Nat.beq t 23 || Nat.beq t 27) with
    | false => rw [hb1] at h; cases h
    | true =>
      cases hb2 : Nat.blt k n with
      | false => rw [hb1, hb2] at h; cases h
      | true =>
        rw [hb1, hb2] at h
        cases h
        have hk := blt_of hb2
        have k1 := tok_inv h1
        have k1 : some (v.S 1) = some a := k1
        obtain ⟨bb, off, c, g1, g2, g3, g4, g5⟩ := hw.at' k hk
        rw [g1] at k1
        cases k1
        have k2 := h2.int_inv
        subst k2
        refine ⟨.pointer (some ⟨bb, off + k * 2, none⟩), ?_, ?_⟩
        · have hk' : (k : Int) < (n : Int) := by omega
          simp only [Bool.or_eq_true] at hb1
          rw [hP]
          rcases hb1 with hb | hb
          · rw [Nat.eq_of_beq_eq_true hb]
            simp [execOp, Instr.indexAt, run_underlying Tryz.underlying23, e1, e2, asIntOf, hk', Nat.not_le.2 hk, siz25, add_off]
          · rw [Nat.eq_of_beq_eq_true hb]
            simp [execOp, Instr.indexAt, run_underlying Tryz.underlying27, e1, e2, asIntOf, hk', Nat.not_le.2 hk, siz34, add_off]
        · have := @VR.tok (toks v) Φ (8 * k + 6) (.pointer (some (v.A k))) (by show tokVal v (8 * k + 6) = _; unfold tokVal; rw [show (8 * k + 6) % 8 = 6 by omega, show (8 * k + 6) / 8 = k by omega]; rfl)
          rw [g2] at this
          exact this
  · rename_i t x p
    obtain ⟨a, e, h1⟩ := vrs1 hV
    simp only [Op.operands, List.map_cons, List.map_nil, List.cons.injEq, and_true] at e
    cases hb1 : (Nat.beq t 25 || Nat.beq t 34) with
    | false => rw [hb1] at h; cases h
    | true =>
      cases hb2 : (Nat.beq (p % 8) 6 && Nat.blt (p / 8) n) with
      | false => rw [hb1, hb2] at h; cases h
      | true =>
        rw [hb1, hb2] at h
        cases h
        simp only [Bool.and_eq_true] at hb2
        obtain ⟨hb2, hb3⟩ := hb2
        have hk := blt_of hb3
        have k1 := tok_inv h1
        unfold tokVal at k1
        rw [Nat.eq_of_beq_eq_true hb2] at k1
        cases k1
        obtain ⟨bb, off, c, g1, g2, g3, g4, g5⟩ := hw.at' (p / 8) hk
        rw [g2] at e
        have hc : ∀ o, w.cell? ⟨bb, o, none⟩ = C.w0.cell? ⟨bb, o, none⟩ := fun o => hR.below.cell (p := ⟨bb, o, none⟩) (by rw [hB]; exact g3)
        rw [← hc] at g4 g5
        refine ⟨.agg #[.int .i64 (v.Y (100 + 2 * (p / 8))), .int .i64 (v.Y (101 + 2 * (p / 8)))], ?_, ?_⟩
        · simp only [Bool.or_eq_true] at hb1
          rw [hP]
          rcases hb1 with hb | hb
          · rw [Nat.eq_of_beq_eq_true hb]
            simp [execOp, Instr.loadAt, Instr.sureAddr, e, run_load2 25 siz25 agg25 w bb _ _ _ g4 g5]
          · rw [Nat.eq_of_beq_eq_true hb]
            simp [execOp, Instr.loadAt, Instr.sureAddr, e, run_load2 34 siz34 agg34 w bb _ _ _ g4 g5]
        · exact .mkAgg (VRs.cons (VR.inTok Φ _) (VRs.cons (VR.inTok Φ _) (VRs.nil Φ)))
  · rename_i args ts
    obtain ⟨a, e, h1⟩ := vrs1 hV
    split at h
    · rename_i t hts
      cases hb1 : (Nat.beq t 23 || Nat.beq t 27) with
      | false => rw [hb1] at h; cases h
      | true =>
        rw [hb1] at h
        cases h
        have k1 : some (v.S 1) = some a := tok_inv h1
        obtain ⟨aa, c, g1⟩ := hw.sl
        rw [g1] at k1
        cases k1
        refine ⟨.int .i64 n, ?_, .int Φ _ _⟩
        have ha : args.map ev = #[.slice aa n c] := by
          apply Array.ext'
          have e' := e
          simp [Op.operands, Call.operands] at e'
          simpa using e'
        have ht : ts[0]? = some t := by rw [← Array.getElem?_toList, hts]; rfl
        rw [hP]
        simp only [execOp, resolve, Sem.run_bind, Sem.run_pure, Result.andThen_ok, ha]
        simp only [Bool.or_eq_true] at hb1
        rcases hb1 with hb | hb
        · rw [Nat.eq_of_beq_eq_true hb] at ht
          simp [invoke, builtin, Builtin.len_, ht, run_underlying Tryz.underlying23, goInt]
        · rw [Nat.eq_of_beq_eq_true hb] at ht
          simp [invoke, builtin, Builtin.len_, ht, run_underlying Tryz.underlying27, goInt]
    · cases h
  · cases h
end
end Go.Proofs.YtkacieekahfdmaaGreatDoor
set_option linter.unusedSectionVars false
namespace Go.Proofs.YtkacieekahfdmaaGreatDoor
open Go Go.RowKit Go.Abs
def Pow10 (w : World) : Prop := Lib.TabIs Tryz.prog w "internal/strconv.uint64pow10" .u64 Lib.pow10Tab
theorem pow10_below {w w' : World} {B : Nat} (h : Pow10 w) (hb : Below B w w') (hB : B = w.heap.size) : Pow10 w' := by
  unfold Pow10 Lib.TabIs World.var? at *
  cases hg : Tryz.prog.globalNamed "internal/strconv.uint64pow10" with
  | none => simp [hg] at h
  | some g =>
    simp only [hg, Option.bind_some] at h ⊢
    have hlt : g < w.heap.size := by
      rcases Nat.lt_or_ge g w.heap.size with h' | h'
      · exact h'
      · rw [Array.getElem?_eq_none h'] at h; simp at h
    rw [hb.block g (by rw [hB]; exact hlt)]
    exact h
theorem below_grow (w : World) (k : Nat) (os : Array Obj) : Below w.heap.size w (Go.Sort.grow (w.drewN k) os) := by
  refine ⟨rfl, ?_, rfl, by simp [Go.Sort.grow], fun j hj => ?_⟩
  · simp [Go.Sort.grow]
  · exact Lib.heap_grow_old w k os j hj
theorem itoa_small (m : Nat) (h : m < 10) : Lib.itoa (m : Int) = [UInt8.ofNat (48 + m)] := by
  rw [Lib.itoa_nonneg, Lib.decDigits_eq, Lib.nDigits_small h]
  simp [Lib.dg, Nat.mod_eq_of_lt h]
/-- what the numbers stand for is in range -/
structure WfR (v : Val) : Prop where
  rng : ∀ i, i ≠ 1 → -9223372036854775808 ≤ v.Y i ∧ v.Y i ≤ 9223372036854775807
  gen : ∀ i, i < 2 → 0 ≤ v.Y i ∧ v.Y i < 18446744073709551616
  bit : ∀ i, i < 50 → v.Y (50 + i) = if v.B i then 1 else 0
noncomputable def hItoaT : Hd
  | [.chan (some a)], s => bif Nat.beq (a % 8) 0 && (!(Nat.beq (a / 8) 1)) && Nat.blt (a / 8) 700 then some (strTok (257 + a / 8), s) else none
  | [.int .i64 (.ofNat m)], s => bif Nat.blt m 10 then some (mkStr [UInt8.ofNat (48 + m)], s) else none
  | _, _ => none
noncomputable def hFmtT : Hd
  | [.chan (some a), .int .i64 (.ofNat 10)], s => bif Nat.beq (a % 8) 1 && Nat.blt (a / 8) 2 then some (strTok (257 + a / 8), s) else none
  | _, _ => none
noncomputable def hBitT : Hd
  | [.chan (some a)], s => bif Nat.beq (a % 8) 4 && Nat.blt (a / 8) 50 then some (inTok (50 + a / 8), s) else none
  | [.bool b], s => some (.int .i64 (bif b then 1 else 0), s)
  | _, _ => none
noncomputable def hWordT : Hd
  | [.chan (some a)], s => bif Nat.beq (a % 8) 4 && Nat.blt (a / 8) 50 then some (strTok (33 + 1024 * (307 + a / 8)), s) else none
  | [.bool b], s => some (mkStr [32, bif b then 49 else 48], s)
  | _, _ => none
theorem bit_calls (b : Bool) (w : World) : Calls Tryz.prog 14 #[.bool b] w fun e w' => e = .returned (.int .i64 (if b then 1 else 0)) ∧ w' = w := by
  cases b <;> (go_enter Tryz.func14, Tryz.ntmps14; go_wp2; go_ret; exact ⟨rfl, rfl⟩)
theorem word_calls (b : Bool) (w : World) : Calls Tryz.prog 4 #[.bool b] w fun e w' => e = .returned (.string ⟨#[32, if b then 49 else 48]⟩) ∧ w' = w := by
  cases b <;> (go_enter Tryz.func4, Tryz.ntmps4; go_wp2; go_ret; exact ⟨rfl, rfl⟩)
section
variable {v : Val} {C : Ctx} (hP : C.P = Tryz.prog) (hB : C.B = C.w0.heap.size)
theorem strOf_one (v : Val) (d : Nat) (hd : d < 1024) : strOf v d = pieceOf v d := by
  have := strOf_step v d 0 hd
  rw [strOf_zero] at this
  simpa using this
include hP hB in
theorem hItoaT_ok (hw : WfR v) (ht : Pow10 C.w0) : @HdOK (toks v) C 6 hItoaT := by
  letI := toks v
  intro Φ s w args us r s' hR hA h
  have ht' := pow10_below ht hR.below hB
  unfold hItoaT at h
  split at h
  · rename_i s0 a
    obtain ⟨u, rfl, h1⟩ := vrs1 hA
    cases hb : (Nat.beq (a % 8) 0 && (!(Nat.beq (a / 8) 1)) && Nat.blt (a / 8) 700) with
    | false => rw [hb] at h; cases h
    | true =>
      rw [hb] at h
      cases h
      simp only [Bool.and_eq_true, Bool.not_eq_true'] at hb
      obtain ⟨⟨hb1, hb2⟩, hb3⟩ := hb
      have hb3 := blt_of hb3
      have hne : a / 8 ≠ 1 := fun e => by rw [e] at hb2; cases hb2
      have k1 := tok_inv h1
      unfold tokVal at k1
      rw [Nat.eq_of_beq_eq_true hb1] at k1
      cases k1
      obtain ⟨r1, r2⟩ := hw.rng _ hne
      refine ⟨⟨Tryz.f6, by rw [hP]; exact Tryz.func6, by kernel_rfl⟩, ?_⟩
      rw [hP]
      refine (Tryz.strconv_Itoa _ r1 r2 w ht').mono fun e w' ⟨he, k, os, hw'⟩ => ?_
      obtain ⟨g1, g2⟩ := hR.belowOf (hw' ▸ below_grow w k os)
      refine ⟨_, Φ, he, ?_, g1, g2⟩
      have := VR.strTok (v := v) Φ (257 + a / 8)
      rw [strOf_one v _ (by omega)] at this
      unfold pieceOf at this
      rw [if_neg (by omega), if_neg (by omega), show 257 + a / 8 - 257 = a / 8 by omega] at this
      exact this
  · rename_i s0 m
    obtain ⟨u, rfl, h1⟩ := vrs1 hA
    cases hb : Nat.blt m 10 with
    | false => rw [hb] at h; cases h
    | true =>
      rw [hb] at h
      cases h
      have hb := blt_of hb
      have k1 := h1.int_inv
      subst k1
      refine ⟨⟨Tryz.f6, by rw [hP]; exact Tryz.func6, by kernel_rfl⟩, ?_⟩
      rw [hP]
      refine (Tryz.strconv_Itoa (m : Int) (by omega) (by omega) w ht').mono fun e w' ⟨he, k, os, hw'⟩ => ?_
      obtain ⟨g1, g2⟩ := hR.belowOf (hw' ▸ below_grow w k os)
      refine ⟨_, Φ, he, ?_, g1, g2⟩
      have hd : Lib.itoa (m : Int) = [UInt8.ofNat (48 + m)] := by
        exact itoa_small m hb
      rw [hd]
      exact .flat _ rfl
  · cases h
include hP hB in
theorem hFmtT_ok (hw : WfR v) (ht : Pow10 C.w0) : @HdOK (toks v) C 12 hFmtT := by
  letI := toks v
  intro Φ s w args us r s' hR hA h
  have ht' := pow10_below ht hR.below hB
  unfold hFmtT at h
  split at h
  · rename_i s0 a
    obtain ⟨u1, u2, rfl, h1, h2⟩ := vrs2 hA
    cases hb : (Nat.beq (a % 8) 1 && Nat.blt (a / 8) 2) with
    | false => rw [hb] at h; cases h
    | true =>
      rw [hb] at h
      cases h
      simp only [Bool.and_eq_true] at hb
      have hb3 := blt_of hb.2
      have k1 := tok_inv h1
      unfold tokVal at k1
      rw [Nat.eq_of_beq_eq_true hb.1] at k1
      cases k1
      have k2 := h2.int_inv
      subst k2
      refine ⟨⟨Tryz.f12, by rw [hP]; exact Tryz.func12, by kernel_rfl⟩, ?_⟩
      rw [hP]
      obtain ⟨n, hn⟩ := Int.eq_ofNat_of_zero_le (hw.gen _ hb3).1
      have hlt := (hw.gen _ hb3).2
      rw [hn] at hlt ⊢
      refine (Tryz.strconv_FormatUint n (by omega) w ht').mono fun e w' ⟨he, k, os, hw'⟩ => ?_
      obtain ⟨g1, g2⟩ := hR.belowOf (hw' ▸ below_grow w k os)
      refine ⟨_, Φ, he, ?_, g1, g2⟩
      have := VR.strTok (v := v) Φ (257 + a / 8)
      rw [strOf_one v _ (by omega)] at this
      unfold pieceOf at this
      rw [if_neg (by omega), if_neg (by omega), show 257 + a / 8 - 257 = a / 8 by omega, hn] at this
      exact this
  · cases h
include hP in
theorem hBitT_ok (hw : WfR v) : @HdOK (toks v) C 14 hBitT := by
  letI := toks v
  intro Φ s w args us r s' hR hA h
  unfold hBitT at h
  split at h
  · rename_i s0 a
    obtain ⟨u, rfl, h1⟩ := vrs1 hA
    cases hb : (Nat.beq (a % 8) 4 && Nat.blt (a / 8) 50) with
    | false => rw [hb] at h; cases h
    | true =>
      rw [hb] at h
      cases h
      simp only [Bool.and_eq_true] at hb
      have hb3 := blt_of hb.2
      have k1 := tok_inv h1
      unfold tokVal at k1
      rw [Nat.eq_of_beq_eq_true hb.1] at k1
      cases k1
      refine ⟨⟨Tryz.f14, by rw [hP]; exact Tryz.func14, by kernel_rfl⟩, ?_⟩
      rw [hP]
      refine (bit_calls _ w).mono fun e w' ⟨he, hw'⟩ => ?_
      subst hw'
      refine ⟨_, Φ, he, ?_, hR, Stp.refl hR⟩
      rw [← hw.bit _ hb3]
      exact VR.inTok Φ _
  · rename_i s0 b
    obtain ⟨u, rfl, h1⟩ := vrs1 hA
    cases h
    have k1 := h1.bool_inv
    subst k1
    refine ⟨⟨Tryz.f14, by rw [hP]; exact Tryz.func14, by kernel_rfl⟩, ?_⟩
    rw [hP]
    refine (bit_calls _ w).mono fun e w' ⟨he, hw'⟩ => ?_
    subst hw'
    refine ⟨_, Φ, he, ?_, hR, Stp.refl hR⟩
    cases b <;> exact .flat _ rfl
  · cases h
theorem itoa_bit (b : Bool) : Lib.itoa (if b then 1 else 0) = [if b then 49 else 48] := by
  cases b
  · exact itoa_small 0 (by omega)
  · exact itoa_small 1 (by omega)
include hP in
theorem hWordT_ok (hw : WfR v) : @HdOK (toks v) C 4 hWordT := by
  letI := toks v
  intro Φ s w args us r s' hR hA h
  unfold hWordT at h
  split at h
  · rename_i s0 a
    obtain ⟨u, rfl, h1⟩ := vrs1 hA
    cases hb : (Nat.beq (a % 8) 4 && Nat.blt (a / 8) 50) with
    | false => rw [hb] at h; cases h
    | true =>
      rw [hb] at h
      cases h
      simp only [Bool.and_eq_true] at hb
      have hb3 := blt_of hb.2
      have k1 := tok_inv h1
      unfold tokVal at k1
      rw [Nat.eq_of_beq_eq_true hb.1] at k1
      cases k1
      refine ⟨⟨Tryz.f4, by rw [hP]; exact Tryz.func4, by kernel_rfl⟩, ?_⟩
      rw [hP]
      refine (word_calls _ w).mono fun e w' ⟨he, hw'⟩ => ?_
      subst hw'
      refine ⟨_, Φ, he, ?_, hR, Stp.refl hR⟩
      have := VR.strTok (v := v) Φ (33 + 1024 * (307 + a / 8))
      rw [strOf_step v _ _ (by omega), strOf_one v _ (by omega)] at this
      unfold pieceOf at this
      rw [if_neg (by omega), if_pos (by omega), if_neg (by omega), if_neg (by omega), show 307 + a / 8 - 257 = 50 + a / 8 by omega, hw.bit _ hb3, itoa_bit] at this
      exact this
  · rename_i s0 b
    obtain ⟨u, rfl, h1⟩ := vrs1 hA
    cases h
    have k1 := h1.bool_inv
    subst k1
    refine ⟨⟨Tryz.f4, by rw [hP]; exact Tryz.func4, by kernel_rfl⟩, ?_⟩
    rw [hP]
    refine (word_calls _ w).mono fun e w' ⟨he, hw'⟩ => ?_
    subst hw'
    refine ⟨_, Φ, he, ?_, hR, Stp.refl hR⟩
    cases b <;> exact .flat _ rfl
  · cases h
end
end Go.Proofs.YtkacieekahfdmaaGreatDoor
