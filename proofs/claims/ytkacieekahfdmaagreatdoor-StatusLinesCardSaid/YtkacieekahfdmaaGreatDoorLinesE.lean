import Derived.Test.YtkacieekahfdmaaGreatDoorLinesA
import Derived.Test.YtkacieekahfdmaaGreatDoorLinesB
import Derived.Test.YtkacieekahfdmaaGreatDoorLinesC
set_option linter.unusedSimpArgs false
set_option linter.unusedVariables false
set_option linter.unusedSectionVars false
set_option linter.unusedSectionVars false
namespace Go.Proofs.YtkacieekahfdmaaGreatDoor
open Go Go.RowKit Go.Abs
theorem ln_all (n : Nat) (h : n ≤ 11) : lnOk n (lnRun n) = true := by
  match n, h with
  | 0, _ => exact ln_0
  | 1, _ => exact ln_1
  | 2, _ => exact ln_2
  | 3, _ => exact ln_3
  | 4, _ => exact ln_4
  | 5, _ => exact ln_5
  | 6, _ => exact ln_6
  | 7, _ => exact ln_7
  | 8, _ => exact ln_8
  | 9, _ => exact ln_9
  | 10, _ => exact ln_10
  | 11, _ => exact ln_11
/-- a status, as numbers -/
structure St where
  g : Int
  h : Int
  f : Int
  u : Int
  r : Int
  m0 : Int
  m1 : Int
  l0 : Int
  l1 : Int
  d0 : Bool
  d1 : Bool
  dg : Bool
  dn : Int
  fl : Int
  le : Int
def St.agg (t : St) (sl : Value) : List Value := [.int .u64 t.g, .int .i64 t.h, .int .i64 t.f, .int .i64 t.u, .int .i64 t.r, .int .i64 t.m0, .int .i64 t.m1, .int .i64 t.l0, .int .i64 t.l1, .bool t.d0, .bool t.d1, .bool t.dg, .int .i64 t.dn, sl, .int .i64 t.fl, .int .i64 t.le]
def b2i (b : Bool) : Int := if b then 1 else 0
def lineB : List UInt8 → List Int → List UInt8
  | w, [] => w
  | w, x :: l => lineB (w ++ 32 :: Lib.itoa x) l
def linesB (t : St) (bad : List (Int × Int)) : List (List UInt8) :=
  [[103, 101, 110, 32] ++ Lib.itoa t.g, lineB [116, 114, 101, 101] [t.h, t.f, t.u], lineB [114, 101, 112, 97, 105, 114, 115] [t.r], lineB [109, 111, 118, 101, 100] [t.m0, t.m1], lineB [108, 101, 102, 116] [t.l0, t.l1],
   lineB [100, 101, 97, 100] [b2i t.d0, b2i t.d1], lineB [115, 105, 108, 118, 101, 114] [b2i t.dg, t.dn], lineB [102, 108, 117, 115, 104, 101, 115] [t.fl, t.le]] ++ bad.map fun p => lineB [98, 97, 100] [p.1, p.2]
def Rng (x : Int) : Prop := -9223372036854775808 ≤ x ∧ x ≤ 9223372036854775807
structure St.Ok (t : St) : Prop where
  g : 0 ≤ t.g ∧ t.g < 18446744073709551616
  h : Rng t.h
  f : Rng t.f
  u : Rng t.u
  r : Rng t.r
  m0 : Rng t.m0
  m1 : Rng t.m1
  l0 : Rng t.l0
  l1 : Rng t.l1
  dn : Rng t.dn
  fl : Rng t.fl
  le : Rng t.le
def BadIs (w : World) (sl : Value) (bad : List (Int × Int)) : Prop := (∃ a c, sl = .slice a bad.length c) ∧ ∀ (k : Nat) p, bad[k]? = some p → Rng p.1 ∧ Rng p.2 ∧
  ∃ b off c, sl = .slice (some ⟨b, off, none⟩) bad.length c ∧ b < w.heap.size ∧ w.cell? ⟨b, off + k * 2, none⟩ = some (.int .i64 p.1) ∧ w.cell? ⟨b, off + k * 2 + 1, none⟩ = some (.int .i64 p.2)
def St.Y (t : St) (bad : List (Int × Int)) (i : Nat) : Int :=
  if 100 ≤ i then (if i % 2 = 0 then ((bad[(i - 100) / 2]?).getD (0, 0)).1 else ((bad[(i - 100) / 2]?).getD (0, 0)).2)
  else if i = 52 then b2i t.d0 else if i = 53 then b2i t.d1 else if i = 54 then b2i t.dg
  else if i = 1 then t.g else if i = 2 then t.m1 else if i = 3 then t.h else if i = 4 then t.f else if i = 5 then t.u else if i = 6 then t.r else if i = 7 then t.m0 else if i = 8 then t.l0 else if i = 9 then t.dn
  else if i = 10 then t.fl else if i = 11 then t.l1 else if i = 12 then t.le else 0
def St.B (t : St) (i : Nat) : Bool := if i = 2 then t.d0 else if i = 3 then t.d1 else if i = 4 then t.dg else false
def addrOf (sl : Value) (k : Nat) : Addr := match sl with
  | .slice (some a) _ _ => ⟨a.block, a.off + k * 2, none⟩
  | _ => ⟨0, 0, none⟩
def St.val (t : St) (bad : List (Int × Int)) (a : Option Addr) (n c : Nat) : Val := { Y := t.Y bad, B := t.B, S := fun _ => .slice a n c, A := addrOf (.slice a n c), hS := fun _ => ⟨_, _, _, rfl⟩ }
theorem itoa_len (x : Int) (h : Rng x ∨ (0 ≤ x ∧ x < 18446744073709551616)) : (Lib.itoa x).length ≤ 21 := by
  rcases h with h | ⟨h0, h1⟩
  · exact Lib.itoa_length_le x h.1 h.2
  · obtain ⟨u, rfl⟩ := Int.eq_ofNat_of_zero_le h0
    rw [Lib.itoa_nonneg, Lib.decDigits_length]
    have := Lib.nDigits_le20 u (by omega)
    omega
theorem rng_b2i (b : Bool) : Rng (b2i b) := by cases b <;> (unfold Rng b2i; simp)
theorem ite_rng {c : Prop} [Decidable c] {a b : Int} (ha : c → Rng a) (hb : ¬c → Rng b) : Rng (if c then a else b) := by
  split
  · exact ha ‹_›
  · exact hb ‹_›
theorem St.Y_ok {t : St} (ht : t.Ok) {bad : List (Int × Int)} (hb : ∀ (k : Nat) p, bad[k]? = some p → Rng p.1 ∧ Rng p.2) (i : Nat) (hi : i ≠ 1) : Rng (t.Y bad i) := by
  have h0 : Rng 0 := by unfold Rng; omega
  have hp : ∀ k : Nat, Rng ((bad[k]?).getD (0, 0)).1 ∧ Rng ((bad[k]?).getD (0, 0)).2 := by
    intro k
    cases e : bad[k]? with
    | none => exact ⟨h0, h0⟩
    | some p => exact hb k p e
  unfold St.Y
  exact ite_rng (fun _ => ite_rng (fun _ => (hp _).1) (fun _ => (hp _).2)) (fun _ => ite_rng (fun _ => rng_b2i _) (fun _ => ite_rng (fun _ => rng_b2i _) (fun _ => ite_rng (fun _ => rng_b2i _) (fun _ => ite_rng (fun h => absurd h hi) (fun _ => ite_rng (fun _ => ht.m1) (fun _ => ite_rng (fun _ => ht.h) (fun _ => ite_rng (fun _ => ht.f) (fun _ => ite_rng (fun _ => ht.u) (fun _ => ite_rng (fun _ => ht.r) (fun _ => ite_rng (fun _ => ht.m0) (fun _ => ite_rng (fun _ => ht.l0) (fun _ => ite_rng (fun _ => ht.dn) (fun _ => ite_rng (fun _ => ht.fl) (fun _ => ite_rng (fun _ => ht.l1) (fun _ => ite_rng (fun _ => ht.le) (fun _ => h0))))))))))))))))
theorem St.wfR {t : St} (ht : t.Ok) {bad : List (Int × Int)} (hb : ∀ (k : Nat) p, bad[k]? = some p → Rng p.1 ∧ Rng p.2) (a : Option Addr) (n c : Nat) : WfR (t.val bad a n c) := by
  have h0 : (0 : Int) ≤ 0 ∧ (0 : Int) < 18446744073709551616 := by omega
  refine ⟨fun i hi => St.Y_ok ht hb i hi, fun i hi => ?_, fun i hi => ?_⟩
  · match i, hi with
    | 0, _ => exact h0
    | 1, _ => exact ht.g
  · show t.Y bad (50 + i) = if t.B i then 1 else 0
    unfold St.Y St.B
    rw [if_neg (by omega)]
    by_cases h2 : i = 2
    · subst h2; simp [b2i]
    by_cases h3 : i = 3
    · subst h3; simp [b2i]
    by_cases h4 : i = 4
    · subst h4; simp [b2i]
    rw [if_neg (by omega), if_neg (by omega), if_neg (by omega), if_neg (by omega), if_neg (by omega), if_neg (by omega), if_neg (by omega), if_neg (by omega), if_neg (by omega), if_neg (by omega), if_neg (by omega), if_neg (by omega), if_neg (by omega), if_neg (by omega), if_neg (by omega)]
    simp [h2, h3, h4]
theorem St.len {t : St} (ht : t.Ok) {bad : List (Int × Int)} (hb : ∀ (k : Nat) p, bad[k]? = some p → Rng p.1 ∧ Rng p.2) (i : Nat) : (Lib.itoa (t.Y bad i)).length ≤ 21 := by
  by_cases h : i = 1
  · subst h; exact itoa_len _ (.inr ht.g)
  · exact itoa_len _ (.inl (St.Y_ok ht hb i h))
theorem St.wfS {t : St} (ht : t.Ok) {bad : List (Int × Int)} {w : World} {a : Option Addr} {c : Nat} (h : BadIs w (.slice a bad.length c) bad) : WfS (t.val bad a bad.length c) bad.length w := by
  have hb : ∀ (k : Nat) p, bad[k]? = some p → Rng p.1 ∧ Rng p.2 := fun k p hk => ⟨(h.2 k p hk).1, (h.2 k p hk).2.1⟩
  refine ⟨St.len ht hb, ⟨a, c, rfl⟩, fun k hk => ?_⟩
  obtain ⟨_, _, b, off, c', e, h1, h2, h3⟩ := h.2 k bad[k] (List.getElem?_eq_getElem hk)
  refine ⟨b, off, c', e, ?_, h1, ?_, ?_⟩
  · show addrOf (.slice a bad.length c) k = _
    rw [e]; rfl
  · show w.cell? _ = some (.int .i64 (t.Y bad (100 + 2 * k)))
    unfold St.Y
    rw [if_pos (by omega), if_pos (by omega), show (100 + 2 * k - 100) / 2 = k by omega, List.getElem?_eq_getElem hk]
    exact h2
  · show w.cell? _ = some (.int .i64 (t.Y bad (101 + 2 * k)))
    unfold St.Y
    rw [if_pos (by omega), if_neg (by omega), show (101 + 2 * k - 100) / 2 = k by omega, List.getElem?_eq_getElem hk]
    exact h3
theorem strOf_codeOf (v : Val) : ∀ l : List Nat, (∀ d ∈ l, d < 1024) → strOf v (codeOf l) = l.flatMap (pieceOf v) := by
  intro l
  induction l with
  | nil => intro _; exact strOf_zero v
  | cons d l ih =>
    intro h
    show strOf v (d + 1024 * codeOf l) = _
    rw [strOf_step v _ _ (h d (by simp)), ih (fun x hx => h x (by simp [hx]))]
    rfl
theorem lineP_lt : ∀ (is w : List Nat), (∀ d ∈ w, d < 1024) → (∀ i ∈ is, i < 700) → ∀ d ∈ lineP w is, d < 1024 := by
  intro is
  induction is with
  | nil => intro w hw _; exact hw
  | cons i is ih =>
    intro w hw hi
    refine ih _ (fun d hd => ?_) (fun j hj => hi j (by simp [hj]))
    rcases List.mem_append.1 hd with h | h
    · exact hw d h
    · have := hi i (by simp)
      simp at h
      omega
theorem flat_lineP (v : Val) : ∀ (is w : List Nat), (lineP w is).flatMap (pieceOf v) = lineB (w.flatMap (pieceOf v)) (is.map v.Y) := by
  intro is
  induction is with
  | nil => intro w; rfl
  | cons i is ih =>
    intro w
    show (lineP (w ++ [33, 257 + i]) is).flatMap (pieceOf v) = lineB (w.flatMap (pieceOf v) ++ 32 :: Lib.itoa (v.Y i)) (is.map v.Y)
    rw [ih]
    congr 1
    rw [List.flatMap_append]
    congr 1
    show pieceOf v 33 ++ (pieceOf v (257 + i) ++ []) = _
    have e1 : pieceOf v 33 = [32] := by unfold pieceOf; rfl
    have e2 : pieceOf v (257 + i) = Lib.itoa (v.Y i) := by
      unfold pieceOf
      rw [if_neg (by omega), if_neg (by omega), show 257 + i - 257 = i by omega]
    rw [e1, e2]; simp
theorem line_code (v : Val) (w : List UInt8) (is : List Nat) (hi : ∀ i ∈ is, i < 700) : strOf v (codeOf (lineP (w.map fun b => b.toNat + 1) is)) = lineB w (is.map v.Y) := by
  have hw : ∀ d ∈ (w.map fun b => b.toNat + 1), d < 1024 := by
    intro d hd
    obtain ⟨b, _, rfl⟩ := List.mem_map.1 hd
    have := b.toNat_lt
    show b.toNat + 1 < 1024
    omega
  rw [strOf_codeOf v _ (lineP_lt is _ hw hi), flat_lineP]
  congr 1
  rw [List.flatMap_map]
  clear hw hi
  induction w with
  | nil => rfl
  | cons b w ih =>
    have hb := b.toNat_lt
    rw [List.flatMap_cons, ih]
    unfold pieceOf
    rw [if_neg (by omega), if_pos (by omega)]
    simp
end Go.Proofs.YtkacieekahfdmaaGreatDoor
set_option linter.unusedSectionVars false
namespace Go.Proofs.YtkacieekahfdmaaGreatDoor
open Go Go.RowKit Go.Abs
theorem badP_strs (t : St) (bad : List (Int × Int)) (a : Option Addr) (n c : Nat) : ∀ (l : List (Int × Int)) (k : Nat), bad.drop k = l → k + l.length ≤ 100 → (badP l.length k).map (fun p => strOf (t.val bad a n c) (codeOf p)) = l.map fun p => lineB [98, 97, 100] [p.1, p.2] := by
  intro l
  induction l with
  | nil => intro k _ _; rfl
  | cons x l ih =>
    intro k hk hl
    simp only [List.length_cons] at hl
    have hx : bad[k]? = some x := by
      have := congrArg (·[0]?) hk
      simpa using this
    have hk' : bad.drop (k + 1) = l := by rw [← List.drop_drop, hk]; rfl
    show strOf _ (codeOf (lineP [99, 98, 101] [100 + 2 * k, 101 + 2 * k])) :: (badP l.length (k + 1)).map _ = _ :: l.map _
    rw [ih (k + 1) hk' (by omega)]
    congr 1
    have := line_code (t.val bad a n c) [98, 97, 100] [100 + 2 * k, 101 + 2 * k] (by intro i hi; simp at hi; omega)
    refine this.trans ?_
    have e1 : (t.val bad a n c).Y (100 + 2 * k) = x.1 := by
      show t.Y bad (100 + 2 * k) = _
      unfold St.Y
      rw [if_pos (by omega), if_pos (by omega), show (100 + 2 * k - 100) / 2 = k by omega, hx]; rfl
    have e2 : (t.val bad a n c).Y (101 + 2 * k) = x.2 := by
      show t.Y bad (101 + 2 * k) = _
      unfold St.Y
      rw [if_pos (by omega), if_neg (by omega), show (101 + 2 * k - 100) / 2 = k by omega, hx]; rfl
    simp only [List.map_cons, List.map_nil, e1, e2]
theorem lines_strs (t : St) (bad : List (Int × Int)) (a : Option Addr) (n c : Nat) (hl : bad.length ≤ 100) : (linesP bad.length).map (fun p => strOf (t.val bad a n c) (codeOf p)) = linesB t bad := by
  unfold linesP linesB
  rw [List.map_append, badP_strs t bad a n c bad 0 rfl (by omega)]
  congr 1
  have h0 : strOf (t.val bad a n c) (codeOf [104, 102, 111, 33, 258]) = [103, 101, 110, 32] ++ Lib.itoa t.g := by
    rw [strOf_codeOf _ _ (by decide)]
    show pieceOf _ 104 ++ (pieceOf _ 102 ++ (pieceOf _ 111 ++ (pieceOf _ 33 ++ (pieceOf _ 258 ++ [])))) = _
    have e5 : pieceOf (t.val bad a n c) 258 = Lib.itoa t.g := by
      unfold pieceOf; rw [if_neg (by omega), if_neg (by omega)]; rfl
    rw [e5]
    have e1 : pieceOf (t.val bad a n c) 104 = [103] := by unfold pieceOf; rfl
    have e2 : pieceOf (t.val bad a n c) 102 = [101] := by unfold pieceOf; rfl
    have e3 : pieceOf (t.val bad a n c) 111 = [110] := by unfold pieceOf; rfl
    have e4 : pieceOf (t.val bad a n c) 33 = [32] := by unfold pieceOf; rfl
    rw [e1, e2, e3, e4]; simp
  have h1 := line_code (t.val bad a n c) [116, 114, 101, 101] [3, 4, 5] (by decide)
  have h2 := line_code (t.val bad a n c) [114, 101, 112, 97, 105, 114, 115] [6] (by decide)
  have h3 := line_code (t.val bad a n c) [109, 111, 118, 101, 100] [7, 2] (by decide)
  have h4 := line_code (t.val bad a n c) [108, 101, 102, 116] [8, 11] (by decide)
  have h5 := line_code (t.val bad a n c) [100, 101, 97, 100] [52, 53] (by decide)
  have h6 := line_code (t.val bad a n c) [115, 105, 108, 118, 101, 114] [54, 9] (by decide)
  have h7 := line_code (t.val bad a n c) [102, 108, 117, 115, 104, 101, 115] [10, 12] (by decide)
  simp only [List.map_cons, List.map_nil]
  rw [h0]
  congr 1
  exact (List.cons_eq_cons.2 ⟨h1, List.cons_eq_cons.2 ⟨h2, List.cons_eq_cons.2 ⟨h3, List.cons_eq_cons.2 ⟨h4, List.cons_eq_cons.2 ⟨h5, List.cons_eq_cons.2 ⟨h6, List.cons_eq_cons.2 ⟨h7, rfl⟩⟩⟩⟩⟩⟩⟩)
theorem linesP_len (n : Nat) : (linesP n).length = 8 + n := by
  have : ∀ n k, (badP n k).length = n := by
    intro n
    induction n with
    | zero => intro k; rfl
    | succ n ih => intro k; show (badP n (k + 1)).length + 1 = _; rw [ih]
  unfold linesP
  rw [List.length_append, this]; rfl
theorem linesB_len (t : St) (bad : List (Int × Int)) : (linesB t bad).length = 8 + bad.length := by
  unfold linesB; rw [List.length_append, List.length_map]; rfl
/-- what a call of Lines leaves: a new row of texts -/
def LnPost (xs : List (List UInt8)) (w : World) (e : Ending) (w' : World) : Prop := Below w.heap.size w w' ∧ ∃ p cap cs fr, w.heap.size ≤ p ∧ e = .returned (.slice (some ⟨p, 0, none⟩) xs.length cap) ∧ xs.length ≤ cap ∧ cap ≤ cs.size ∧
  w'.heap[p]? = some (.cells cs 9 fr) ∧ (∀ k, fr.1 ≤ k → k < fr.2 → False) ∧ ∀ (k : Nat) l, xs[k]? = some l → cs[k]? = some (.string ⟨⟨l⟩⟩)
theorem size9 : sizeP Tryz.prog 9 = 1 := by kernel_rfl
theorem lines_calls {t : St} (ht : t.Ok) {bad : List (Int × Int)} (hn : bad.length ≤ 11) {a : Option Addr} {c : Nat} {w : World} (hbad : BadIs w (.slice a bad.length c) bad) (hp : Pow10 w) :
    Calls Tryz.prog 7 #[.agg ⟨t.agg (.slice a bad.length c)⟩] w (LnPost (linesB t bad) w) := by
  letI : Toks := toks (t.val bad a bad.length c)
  have hrun := ln_all bad.length hn
  generalize hr : lnRun bad.length = r at hrun
  unfold lnOk at hrun
  split at hrun
  · rename_i i m c2 s
    split at hrun
    · rename_i e vs o lo hi ho
      simp only [Bool.and_eq_true] at hrun
      obtain ⟨⟨⟨⟨⟨⟨q1, q2⟩, q4⟩, q5⟩, q6⟩, q7⟩, q3⟩ := hrun
      have q5 := Nat.eq_of_beq_eq_true q5
      have q6 := Nat.eq_of_beq_eq_true q6
      have q7 := Nat.eq_of_beq_eq_true q7
      have q2 := Nat.le_of_ble_eq_true q2
      subst q5; subst q6; subst q7
      have q1 := Nat.eq_of_beq_eq_true q1
      subst q1
      have q3 := lEq_eq (vEq_eq 2) q3
      have hb : ∀ (k : Nat) p, bad[k]? = some p → Rng p.1 ∧ Rng p.2 := fun k p hk => ⟨(hbad.2 k p hk).1, (hbad.2 k p hk).2.1⟩
      have wR := St.wfR ht hb a bad.length c
      have hC : ∀ E, (ctxOf Tryz.prog w E).B = (ctxOf Tryz.prog w E).w0.heap.size := fun E => rfl
      have hk : HookOK (ctxOf Tryz.prog w (envOf kT kF hdLn (hookS bad.length))) (hookS bad.length) := hookS_ok (ctxOf_P _ w _) (St.wfS ht hbad) (hC _)
      have hI : IntrOK (ctxOf Tryz.prog w (envOf kT kF hdLn (hookS bad.length))) := by
        intro f h hh
        rw [ctxOf_E, envOf_I] at hh
        unfold hdLn at hh
        rcases bif_some hh with ⟨e, rfl⟩ | ⟨_, hh⟩
        · rw [Nat.eq_of_beq_eq_true e]; exact hItoaT_ok (ctxOf_P _ w _) (hC _) wR hp
        rcases bif_some hh with ⟨e, rfl⟩ | ⟨_, hh⟩
        · rw [Nat.eq_of_beq_eq_true e]; exact hFmtT_ok (ctxOf_P _ w _) (hC _) wR hp
        rcases bif_some hh with ⟨e, rfl⟩ | ⟨_, hh⟩
        · rw [Nat.eq_of_beq_eq_true e]; exact hBitT_ok (ctxOf_P _ w _) wR
        · cases hh
      have hR0 : Rel (ctxOf Tryz.prog w (envOf kT kF hdLn (hookS bad.length))) (fun _ => none) { heap := .nil, next := 0 } w :=
        ⟨Below.refl _ _, fun i p h => (by cases h), fun i p h => (by cases h), fun i j o o' p q _ _ h => (by cases h), fun i o h => (by rw [Tr.get_nil] at h; cases h), by show 0 ≤ 1000000; omega⟩
      have hA : VRs (fun _ => none) [statTok] [.agg ⟨t.agg (.slice a bad.length c)⟩] := by
        refine VRs.cons (.mkAgg ?_) (VRs.nil _)
        have T : ∀ k x, tokVal (t.val bad a bad.length c) k = some x → VR (fun _ => none) (.chan (some k)) x := fun k x h => .tok k x h
        exact VRs.cons (T 9 _ rfl) <| VRs.cons (T 24 _ rfl) <| VRs.cons (T 32 _ rfl) <| VRs.cons (T 40 _ rfl) <| VRs.cons (T 48 _ rfl) <| VRs.cons (T 56 _ rfl) <| VRs.cons (T 16 _ rfl) <| VRs.cons (T 64 _ rfl) <|
          VRs.cons (T 88 _ rfl) <| VRs.cons (T 20 _ rfl) <| VRs.cons (T 28 _ rfl) <| VRs.cons (T 36 _ rfl) <| VRs.cons (T 72 _ rfl) <| VRs.cons (T 13 _ rfl) <| VRs.cons (T 80 _ rfl) <| VRs.cons (T 96 _ rfl) <| VRs.nil _
      obtain ⟨_, g⟩ := run_ok (C := ctxOf Tryz.prog w (envOf kT kF hdLn (hookS bad.length))) (pokOf w hdLn hk) hI 20 _ _ w 7 _ _ _ s hR0 hA (by rw [ctxOf_E]; exact hr)
      refine g.mono fun e w' ⟨u, Φ', h1, h2, h3, h4⟩ => ⟨h3.below, ?_⟩
      obtain ⟨_, p, cap, hp1, hu, k1, k2, k3⟩ := h2.slice_inv
      obtain ⟨p', cb, hp2, hcb, hor⟩ := h3.obj _ _ ho
      rw [hp1] at hp2; cases hp2
      cases cb <;> simp only [OR] at hor
      rename_i cs e fr
      obtain ⟨o1, o2, o3, o4, o5, o6, o7⟩ := hor
      subst o1
      refine ⟨p.b, cap, cs, fr, (h3.lt _ _ hp1).1, by rw [h1, hu, linesB_len], by rw [linesB_len]; omega, ?_, hcb, fun k a b => by have := o7 k a b; omega, fun k l hl => ?_⟩
      · simp only [Bool.or_eq_true] at q4
        rcases q4 with q4 | q4
        · have := k3 (Nat.eq_of_beq_eq_true q4)
          rw [o3, ctxOf_P, size9] at this
          simp at this
          omega
        · have q4 := Nat.le_of_ble_eq_true q4
          rcases Nat.mod_two_eq_zero_or_one c2 with h0 | h0
          · have := k1 h0; omega
          · have := k3 h0
            rw [o3, ctxOf_P, size9] at this
            simp at this
            omega
      have hlen : k < 8 + bad.length := by rw [← linesB_len t bad]; exact (List.getElem?_eq_some_iff.1 hl).1
      rw [← lines_strs t bad a bad.length c (by omega), List.getElem?_map] at hl
      cases hq : (linesP bad.length)[k]? with
      | none => rw [hq] at hl; cases hl
      | some cd =>
        rw [hq] at hl
        cases hl
        have hv : vs[k]? = some (strTok (codeOf cd)) := by
          have := congrArg (·[k]?) q3
          simp only [List.getElem?_take, List.getElem?_map, hq, Option.map_some] at this
          rw [if_pos hlen] at this
          exact this
        obtain ⟨x, hx, hvr⟩ := o6 k _ hv
        have := tok_inv hvr
        have h5 := tok_inv (VR.strTok (v := t.val bad a bad.length c) Φ' (codeOf cd))
        unfold strTok at h5
        rw [h5] at this
        cases this
        exact hx
    · cases hrun
  · cases hrun
end Go.Proofs.YtkacieekahfdmaaGreatDoor
