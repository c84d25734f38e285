import Derived.Test.YtkacieekahfdmaaGreatDoorAbsA
import Derived.Deep.AppendSrc
import Derived.Laws.IdiomCopy
import Derived.Laws.Cells
import Derived.Laws.StructEq
import Derived.Laws.Strings2
import Derived.Laws.Concat
import Derived.Laws.Pointers
set_option linter.unusedSimpArgs false
set_option linter.unusedVariables false
set_option linter.unusedSectionVars false
set_option linter.unusedSectionVars false
namespace Go.Abs
open Go Go.RowKit
variable [Toks]
variable {ds : List Deferred}
section
variable {C : Ctx} (ok : POK C) {Φ : Ph} {s : AS} {w : World}

theorem sub_len {α : Type} {l : List α} {off n : Nat} {r : List α} (h : sub l off n = some r) : r.length = n ∧ r = (l.drop off).take n ∧ (n = 0 ∨ off + n ≤ l.length) := by
  unfold sub at h
  simp only at h
  split at h
  · rename_i hl
    cases h
    refine ⟨hl, rfl, ?_⟩
    simp at hl
    omega
  · cases h

/-- a cell of a live object -/
theorem Rel.cell (hR : Rel C Φ s w) {i : Nat} {p : Pl} {e : TypeId} {vs : List Value} {o : Bool} {lo hi : Nat} (hs : s.heap.get i = some (.cells e vs o lo hi)) (hp : Φ i = some p) {k : Nat} {v : Value}
    (hv : vs[k]? = some v) : ∃ v', w.cell? ⟨p.b, k, none⟩ = some v' ∧ VR Φ v v' := by
  obtain ⟨q, c, h1, h2, h3⟩ := hR.obj i _ hs
  rw [hp] at h1; cases h1
  cases c <;> simp only [OR] at h3
  obtain ⟨_, _, _, _, _, h6, _⟩ := h3
  obtain ⟨v', a, b⟩ := h6 k v hv
  exact ⟨v', by simp [World.cell?, h2, a], b⟩

theorem loadC_ok (hR : Rel C Φ s w) {i off n : Nat} {l : List Value} (h : loadC s i off n = some l) {p : Pl} (hp : Φ i = some p) :
    ∃ us, VRs Φ l us ∧ l.length = n ∧ (∀ j v, us[j]? = some v → w.cell? (Addr.add ⟨p.b, off, none⟩ j) = some v) ∧ (loadCells ⟨p.b, off, none⟩ n).run C.P w = .ok ⟨us⟩ w := by
  unfold loadC at h
  split at h
  · rename_i e vs o lo hi hs
    obtain ⟨hl, hr, hb⟩ := sub_len h
    have key : ∀ (k : Nat), k < n → ∃ v', w.cell? ⟨p.b, off + k, none⟩ = some v' ∧ ∀ v, l[k]? = some v → VR Φ v v' := by
      intro k hk
      have hlt : off + k < vs.length := by omega
      obtain ⟨v', a, b⟩ := hR.cell hs hp (List.getElem?_eq_getElem hlt)
      refine ⟨v', a, fun v hv => ?_⟩
      rw [hr, List.getElem?_take, if_pos hk, List.getElem?_drop, List.getElem?_eq_getElem hlt] at hv
      cases hv; exact b
    have hcell : ∃ us : List Value, us.length = n ∧ ∀ (k : Nat) v, us[k]? = some v → w.cell? ⟨p.b, off + k, none⟩ = some v ∧ ∀ x, l[k]? = some x → VR Φ x v := by
      refine ⟨(List.range n).map fun k => (w.cell? ⟨p.b, off + k, none⟩).getD undef, by simp, fun k v hv => ?_⟩
      have hk : k < n := by
        have := (List.getElem?_eq_some_iff.1 hv).1
        simpa using this
      obtain ⟨v', a, b⟩ := key k hk
      simp [List.getElem?_map, List.getElem?_range hk, a] at hv
      subst hv
      exact ⟨a, b⟩
    obtain ⟨us, hul, hu⟩ := hcell
    have hadd : ∀ j v, us[j]? = some v → w.cell? (Addr.add ⟨p.b, off, none⟩ j) = some v := by
      intro j v hv
      have := (hu j v hv).1
      have e : Addr.add ⟨p.b, off, none⟩ j = ⟨p.b, off + j, none⟩ := by unfold Addr.add; split <;> simp_all
      rw [e]; exact this
    refine ⟨us, ⟨by omega, fun k v v' a b => (hu k v' b).2 v a⟩, hl, hadd, ?_⟩
    have := run_loadCells_list (P := C.P) w ⟨p.b, off, none⟩ us hadd
    rw [hul] at this
    exact this
  · cases h

include ok in
theorem loadV_ok (hR : Rel C Φ s w) {t : TypeId} {i off : Nat} {v : Value} (h : loadV C.E.T s t i off = some v) {p : Pl} (hp : Φ i = some p) :
    ∃ v', (loadVar t ⟨p.b, off, none⟩).run C.P w = .ok v' w ∧ VR Φ v v' := by
  unfold loadV at h
  split at h
  · rename_i n ha hs
    split at h
    · rename_i l hl
      cases h
      obtain ⟨us, h1, _, _, h2⟩ := loadC_ok hR hl hp
      refine ⟨.agg ⟨us⟩, ?_, .mkAgg h1⟩
      simp [loadVar, run_agg ok ha, run_siz ok hs, h2]
    · cases h
  · rename_i n ha hs
    split at h
    · rename_i x hl
      cases h
      obtain ⟨us, h1, _, h3, _⟩ := loadC_ok hR hl hp
      obtain ⟨u, us', rfl, h4, _⟩ := h1.head
      have := h3 0 u rfl
      have e : Addr.add ⟨p.b, off, none⟩ 0 = ⟨p.b, off, none⟩ := by simp [Addr.add]
      rw [e] at this
      exact ⟨u, by simp [loadVar, run_agg ok ha, this], h4⟩
    · cases h
  · cases h

/-! strings -/
theorem beqL_eq : ∀ {x y : List UInt8}, beqL x y = true ↔ x = y := by
  intro x
  induction x with
  | nil => intro y; cases y <;> simp [beqL]
  | cons a x ih =>
    intro y
    cases y with
    | nil => simp [beqL]
    | cons b y =>
      simp only [beqL, Bool.and_eq_true, beq_iff_eq, List.cons.injEq, ih]
      constructor
      · rintro ⟨h1, h2⟩; exact ⟨UInt8.toNat_inj.1 h1, h2⟩
      · rintro ⟨h1, h2⟩; exact ⟨by rw [h1], h2⟩
theorem beqL_beq (x y : List UInt8) : (x == y) = beqL x y := by
  rw [Bool.eq_iff_iff, beqL_eq, beq_iff_eq]
theorem lessL_eq : ∀ (x y : List UInt8), Op.bytesLess x y = lessL x y := by
  intro x
  induction x with
  | nil => intro y; cases y <;> simp [Op.bytesLess, lessL]
  | cons a x ih =>
    intro y
    cases y with
    | nil => simp [Op.bytesLess, lessL]
    | cons b y =>
      simp only [Op.bytesLess, lessL, ih]
      congr 1
      · rw [Bool.eq_iff_iff]; simp [UInt8.lt_iff_toNat_lt]
      · congr 1
        rw [Bool.eq_iff_iff]
        simp [UInt8.toNat_inj]
theorem ba_toList (s : ByteArray) : s.toList = s.data.toList := ByteArray.toList_eq s
theorem ba_size (s : ByteArray) : s.size = s.data.toList.length := by
  obtain ⟨⟨l⟩⟩ := s; rfl
theorem ba_append (x y : ByteArray) : x ++ y = ⟨⟨x.data.toList ++ y.data.toList⟩⟩ := by
  obtain ⟨⟨x⟩⟩ := x; obtain ⟨⟨y⟩⟩ := y; exact ByteArray.mk_append_mk x y
theorem ba_extract (x : ByteArray) (a b : Nat) : x.extract a b = ⟨⟨(x.data.toList.drop a).take (b - a)⟩⟩ := by
  obtain ⟨⟨x⟩⟩ := x; exact ByteArray.extract_mk x a b
theorem ba_get (x : ByteArray) (k : Nat) : x[k]? = x.data.toList[k]? := by
  obtain ⟨⟨x⟩⟩ := x
  by_cases h : k < x.length
  · rw [ByteArray.getElem?_lt' _ _ (by exact h)]
    show some _ = x[k]?
    rw [List.getElem?_eq_getElem h]; rfl
  · rw [ByteArray.getElem?_ge' _ _ (by exact h)]
    exact (List.getElem?_eq_none (Nat.le_of_not_lt h)).symm

/-! arithmetic -/
theorem aInt_flat {op : BinOp} {k : IntKind} {a b : Int} {v : Value} (h : aInt op k a b = some v) : flat v = true := by
  cases op <;> simp only [aInt] at h <;> (try split at h) <;> (try cases h) <;> rfl
theorem aInt_ok {op : BinOp} {t : TypeId} {k : IntKind} {a b : Int} {v : Value} (h : aInt op k a b = some v) (P : Program) (w : World) :
    (binOp op t (.int k a) (.int k b)).run P w = .ok v w := by
  cases op <;> simp only [aInt] at h <;> (try split at h) <;> (try cases h) <;>
    simp_all [binOp, Op.intArith, Op.intDiv, Op.intBits, Op.intCmp]
theorem aShift_flat {op : BinOp} {k : IntKind} {a b : Int} {v : Value} (h : aShift op k a b = some v) : flat v = true := by
  unfold aShift at h
  split at h
  · cases h
  · cases op <;> simp only at h <;> (try cases h) <;> rfl
theorem aShift_ok {op : BinOp} {t : TypeId} {k k' : IntKind} {a b : Int} {v : Value} (h : aShift op k a b = some v) (P : Program) (w : World) :
    (binOp op t (.int k a) (.int k' b)).run P w = .ok v w := by
  unfold aShift at h
  split at h
  · cases h
  · rename_i hb
    cases op <;> simp only at h <;> (try cases h) <;> simp [binOp, Op.shift, hb]
theorem aStr_flat {op : BinOp} {a b : List UInt8} {v : Value} (h : aStr op a b = some v) : flat v = true := by
  cases op <;> simp only [aStr] at h <;> (try split at h) <;> (try cases h) <;> rfl
theorem aStr_ok {op : BinOp} {t : TypeId} {a b : ByteArray} {v : Value} (h : aStr op a.data.toList b.data.toList = some v) (P : Program) (w : World) :
    (binOp op t (.string a) (.string b)).run P w = .ok v w := by
  have hmax : IntKind.i64.max = 9223372036854775807 := by decide
  have e1 : ∀ x y : ByteArray, (x.toList == y.toList) = beqL x.data.toList y.data.toList := fun x y => by rw [ba_toList, ba_toList, beqL_beq]
  have e2 : ∀ x y : ByteArray, Op.bytesLess x.toList y.toList = lessL x.data.toList y.data.toList := fun x y => by rw [ba_toList, ba_toList, lessL_eq]
  cases op <;> simp only [aStr] at h <;> (try cases h) <;> simp only [binOp, Op.stringOp, e1, e2] <;> (try rfl)
  split at h
  · rename_i h1
    cases h
    rw [← ba_size, ← ba_size] at h1
    rw [if_neg (by rw [hmax]; omega), ba_append]; rfl
  · cases h
end
end Go.Abs
set_option linter.unusedSectionVars false
namespace Go.Abs
open Go Go.RowKit
variable [Toks]
variable {ds : List Deferred}
section
variable {C : Ctx} (ok : POK C) {Φ : Ph} {s : AS} {w : World}

theorem isPlainT_inv {T : Tr TypeInfo} {t : TypeId} {x : Value} (h : isPlainT T t x = true) :
    (und T t = some .bool ∧ ∃ b, x = .bool b) ∨ (∃ k n q, und T t = some (.int q) ∧ x = .int k n) ∨ (und T t = some .string ∧ ∃ b, x = .string b) := by
  unfold isPlainT at h
  split at h
  · rename_i b e; exact .inl ⟨e, b, rfl⟩
  · rename_i q k n e; exact .inr (.inl ⟨_, _, _, e, rfl⟩)
  · rename_i b e; exact .inr (.inr ⟨e, b, rfl⟩)
  · cases h

include ok in
theorem eqFlat_ok {t : TypeId} {x y : Value} {r : Bool} (hx : isPlainT C.E.T t x = true) (hy : isPlainT C.E.T t y = true) (h : eqFlat x y = some r) (d : Nat) (w : World) :
    (Op.equalIn (d + 1) t x y).run C.P w = .ok r w ∧ aggT C.E.T t = some false := by
  rcases isPlainT_inv hx with ⟨hu, b, rfl⟩ | ⟨k, n, q, hu, rfl⟩ | ⟨hu, b, rfl⟩
  · rcases isPlainT_inv hy with ⟨hu', b', rfl⟩ | ⟨k', n', q', hu', rfl⟩ | ⟨hu', b', rfl⟩
    · simp only [eqFlat, Option.some.injEq] at h; subst h
      exact ⟨run_equalIn_bool w d t b b' (und_of ok hu), by simp [aggT, hu]⟩
    · rw [hu] at hu'; cases hu'
    · rw [hu] at hu'; cases hu'
  · rcases isPlainT_inv hy with ⟨hu', b', rfl⟩ | ⟨k', n', q', hu', rfl⟩ | ⟨hu', b', rfl⟩
    · rw [hu] at hu'; cases hu'
    · simp only [eqFlat] at h
      split at h
      · rename_i e; cases h; subst e
        exact ⟨run_equalIn_int w d t k q n n' (und_of ok hu), by simp [aggT, hu]⟩
      · cases h
    · rw [hu] at hu'; cases hu'
  · rcases isPlainT_inv hy with ⟨hu', b', rfl⟩ | ⟨k', n', q', hu', rfl⟩ | ⟨hu', b', rfl⟩
    · rw [hu] at hu'; cases hu'
    · rw [hu] at hu'; cases hu'
    · simp only [eqFlat, Option.some.injEq] at h; subst h
      refine ⟨?_, by simp [aggT, hu]⟩
      rw [run_equalIn_string w d t b b' (und_of ok hu), ba_toList, ba_toList, beqL_beq]

theorem plain_flat {T : Tr TypeInfo} {t : TypeId} {x : Value} (h : isPlainT T t x = true) : ∀ {Φ : Ph} {u : Value}, VR Φ x u → u = x := by
  intro Φ u hu
  rcases isPlainT_inv h with ⟨_, b, rfl⟩ | ⟨k, n, q, _, rfl⟩ | ⟨_, b, rfl⟩
  · exact hu.bool_inv
  · exact hu.int_inv
  · exact hu.str_inv

include ok in
theorem eqFields_ok {xs ys us ws : List Value} (hx : VRs Φ xs us) (hy : VRs Φ ys ws) (d : Nat) : ∀ {fs : List Field} {r : Bool}, eqFields C.E.T fs xs ys = some r →
    (Op.eqFields (d + 1) ⟨us⟩ ⟨ws⟩ fs).run C.P w = .ok r w := by
  intro fs
  induction fs with
  | nil => intro r h; simp only [eqFields, Option.some.injEq] at h; subst h; rfl
  | cons f fs ih =>
    intro r h
    simp only [eqFields] at h
    split at h
    · cases h
    · rename_i hname
      split at h
      · rename_i x y hx1 hy1
        split at h
        · rename_i hp
          simp only [Bool.and_eq_true] at hp
          obtain ⟨x', hx2, hx3⟩ := hx.get hx1
          obtain ⟨y', hy2, hy3⟩ := hy.get hy1
          have ex := plain_flat hp.1 hx3
          have ey := plain_flat hp.2 hy3
          subst ex; subst ey
          cases he : eqFlat x' y' with
          | none => simp [he] at h
          | some b =>
            obtain ⟨h1, h2⟩ := eqFlat_ok ok hp.1 hp.2 he d w
            have ha : ∀ w, (isAgg f.type).run C.P w = .ok false w := fun w => run_agg ok h2 w
            have px : (part f.type ⟨us⟩ f.offset).run C.P w = .ok x' w := by simp [part, ha, hx2]
            have py : (part f.type ⟨ws⟩ f.offset).run C.P w = .ok y' w := by simp [part, ha, hy2]
            simp only [Op.eqFields, ne_eq, hname, not_false_eq_true, if_true, Sem.run_bind, px, py, h1, Result.andThen_ok]
            cases b with
            | true =>
              simp [he] at h
              simp [ih h]
            | false =>
              simp [he] at h
              subst h; simp
        · cases h
      · cases h

/-- comparing goes by Op.equal -/
def ByEq (t : TypeId) (a b : Value) : Prop :=
  binOp .eql t a b = (do pure (.bool (← Op.equal t a b))) ∧ binOp .neq t a b = (do pure (.bool (!(← Op.equal t a b))))

include ok in
theorem eqV_ok {t : TypeId} {x y : Operand} {a b a' b' : Value} {r : Bool} (h : eqV C.E t (isC x || isC y) a b = some r) (ha : VR Φ a a') (hb : VR Φ b b') (op : BinOp) (w : World) :
    (∀ d, (Op.equalIn (d + 1 + 1) t a' b').run C.P w = .ok r w) ∧ (eqGuard op t x y a' b').run C.P w = .ok () w ∧
      ((∀ k n k' m, a = .int k n → b = .int k' m → False) → (∀ n m, a = .string n → b = .string m → False) → ByEq t a' b') := by
  unfold eqV at h
  split at h
  case h_1 =>
    rename_i hu; cases h
    cases ha.bool_inv; cases hb.bool_inv
    exact ⟨fun d => run_equalIn_bool w _ t _ _ (und_of ok hu), by cases op <;> simp [eqGuard], fun _ _ => ⟨rfl, rfl⟩⟩
  case h_2 =>
    rename_i hu
    cases ha.int_inv; cases hb.int_inv
    split at h
    · rename_i e; cases h; subst e
      exact ⟨fun d => run_equalIn_int w _ t _ _ _ _ (und_of ok hu), by cases op <;> simp [eqGuard], fun h _ => (h _ _ _ _ rfl rfl).elim⟩
    · cases h
  case h_3 =>
    rename_i hu; cases h
    cases ha.str_inv; cases hb.str_inv
    exact ⟨fun d => by rw [run_equalIn_string w _ t _ _ (und_of ok hu), ba_toList, ba_toList, beqL_beq], by cases op <;> simp [eqGuard], fun _ h => (h _ _ rfl rfl).elim⟩
  case h_4 =>
    rename_i e q hu; cases h
    cases ha.nilptr_inv
    cases q with
    | none => cases hb.nilptr_inv; exact ⟨fun d => by unfold Op.equalIn; rw [Sem.run_bind, run_und ok hu]; rfl, by cases op <;> simp [eqGuard], fun _ _ => ⟨rfl, rfl⟩⟩
    | some q => obtain ⟨_, p, _, rfl⟩ := hb.ptr_inv; exact ⟨fun d => by unfold Op.equalIn; rw [Sem.run_bind, run_und ok hu]; rfl, by cases op <;> simp [eqGuard], fun _ _ => ⟨rfl, rfl⟩⟩
  case h_5 =>
    rename_i e q hu; cases h
    cases hb.nilptr_inv
    obtain ⟨_, p, _, rfl⟩ := ha.ptr_inv
    exact ⟨fun d => by unfold Op.equalIn; rw [Sem.run_bind, run_und ok hu]; rfl, by cases op <;> simp [eqGuard], fun _ _ => ⟨rfl, rfl⟩⟩
  case h_6 =>
    rename_i ms hu
    split at h
    · rename_i hc; cases h
      cases ha.niliface_inv; cases hb.niliface_inv
      refine ⟨fun d => by unfold Op.equalIn; rw [Sem.run_bind, run_und ok hu]; rfl, ?_, fun _ _ => ⟨rfl, rfl⟩⟩
      simp only [Bool.or_eq_true] at hc
      rcases hc with h | h
      · cases x <;> first | exact absurd h Bool.false_ne_true | (cases op <;> simp [eqGuard])
      · cases y <;> first | exact absurd h Bool.false_ne_true | (cases op <;> simp [eqGuard])
    · cases h
  case h_7 =>
    rename_i hu; cases h
    cases ha.niliface_inv
    obtain ⟨v', rfl, _⟩ := hb.iface_inv
    exact ⟨fun d => by unfold Op.equalIn; rw [Sem.run_bind, run_und ok hu]; rfl, by cases op <;> simp [eqGuard], fun _ _ => ⟨rfl, rfl⟩⟩
  case h_8 =>
    rename_i hu; cases h
    cases hb.niliface_inv
    obtain ⟨v', rfl, _⟩ := ha.iface_inv
    exact ⟨fun d => by unfold Op.equalIn; rw [Sem.run_bind, run_und ok hu]; rfl, by cases op <;> simp [eqGuard], fun _ _ => ⟨rfl, rfl⟩⟩
  case h_9 =>
    rename_i q _ _ hu; cases h
    obtain ⟨_, _, rfl⟩ := ha.nilslice_inv
    cases q with
    | none => obtain ⟨_, _, rfl⟩ := hb.nilslice_inv; exact ⟨fun d => by unfold Op.equalIn; rw [Sem.run_bind, run_und ok hu]; rfl, by cases op <;> simp [eqGuard], fun _ _ => ⟨rfl, rfl⟩⟩
    | some q => obtain ⟨_, p, cap, _, rfl, _⟩ := hb.slice_inv; exact ⟨fun d => by unfold Op.equalIn; rw [Sem.run_bind, run_und ok hu]; rfl, by cases op <;> simp [eqGuard], fun _ _ => ⟨rfl, rfl⟩⟩
  case h_10 =>
    rename_i hu; cases h
    obtain ⟨_, _, rfl⟩ := hb.nilslice_inv
    obtain ⟨_, p, cap, _, rfl, _⟩ := ha.slice_inv
    exact ⟨fun d => by unfold Op.equalIn; rw [Sem.run_bind, run_und ok hu]; rfl, by cases op <;> simp [eqGuard], fun _ _ => ⟨rfl, rfl⟩⟩
  case h_11 =>
    rename_i q hu; cases h
    cases ha.nilmap_inv
    cases q with
    | none => cases hb.nilmap_inv; exact ⟨fun d => by unfold Op.equalIn; rw [Sem.run_bind, run_und ok hu]; rfl, by cases op <;> simp [eqGuard], fun _ _ => ⟨rfl, rfl⟩⟩
    | some q => obtain ⟨p, _, rfl⟩ := hb.map_inv; exact ⟨fun d => by unfold Op.equalIn; rw [Sem.run_bind, run_und ok hu]; rfl, by cases op <;> simp [eqGuard], fun _ _ => ⟨rfl, rfl⟩⟩
  case h_12 =>
    rename_i q hu; cases h
    cases hb.nilmap_inv
    obtain ⟨p, _, rfl⟩ := ha.map_inv
    exact ⟨fun d => by unfold Op.equalIn; rw [Sem.run_bind, run_und ok hu]; rfl, by cases op <;> simp [eqGuard], fun _ _ => ⟨rfl, rfl⟩⟩
  case h_13 =>
    rename_i hu; cases h
    cases ha.nilfunc_inv; cases hb.nilfunc_inv
    exact ⟨fun d => by unfold Op.equalIn; rw [Sem.run_bind, run_und ok hu]; rfl, by cases op <;> simp [eqGuard], fun _ _ => ⟨rfl, rfl⟩⟩
  case h_14 =>
    rename_i hu; cases h
    cases ha.nilfunc_inv
    obtain ⟨f, us, ws, rfl⟩ := hb.fn_inv
    exact ⟨fun d => by unfold Op.equalIn; rw [Sem.run_bind, run_und ok hu]; rfl, by cases op <;> simp [eqGuard], fun _ _ => ⟨rfl, rfl⟩⟩
  case h_15 =>
    rename_i hu; cases h
    cases hb.nilfunc_inv
    obtain ⟨f, us, ws, rfl⟩ := ha.fn_inv
    exact ⟨fun d => by unfold Op.equalIn; rw [Sem.run_bind, run_und ok hu]; rfl, by cases op <;> simp [eqGuard], fun _ _ => ⟨rfl, rfl⟩⟩
  case h_16 =>
    rename_i fs xs ys hu
    split at h
    · rename_i hs
      obtain ⟨h1, h2⟩ := ok.okS t hs
      obtain ⟨us, rfl, hxs⟩ := ha.agg_inv
      obtain ⟨ws, rfl, hys⟩ := hb.agg_inv
      have hf : C.P.fieldsOf t = fs := by simp [Program.fieldsOf, und_of ok hu]
      refine ⟨fun d => ?_, run_eqGuard_agg w op t x y _ _ h2, fun _ _ => ⟨rfl, rfl⟩⟩
      rw [run_equalIn_struct w (d + 1) t _ _ (by rw [hf]; exact und_of ok hu) h1, hf]
      exact eqFields_ok ok hxs hys d h
    · cases h
  case h_17 => cases h

include ok in
theorem eqPtr_ok (hR : Rel C Φ s w) {t : TypeId} {a b : Addr} {x y : Operand} {a' b' : Value} {r : Bool} (h : eqPtr C.E s t a b = some r) (ha : VR Φ (.pointer (some a)) a') (hb : VR Φ (.pointer (some b)) b') (op : BinOp) :
    (∀ d, (Op.equalIn (d + 1 + 1) t a' b').run C.P w = .ok r w) ∧ (eqGuard op t x y a' b').run C.P w = .ok () w := by
  obtain ⟨ha0, p, hp, rfl⟩ := ha.ptr_inv
  obtain ⟨hb0, q, hq, rfl⟩ := hb.ptr_inv
  refine ⟨fun d => ?_, by cases op <;> simp [eqGuard]⟩
  unfold eqPtr at h
  split at h
  · rename_i e hu
    split at h
    · rename_i n e1 vs1 e2 vs2 hn h1 h2
      obtain ⟨p', c, hp', hc, ho⟩ := hR.obj _ _ h1
      rw [hp] at hp'; cases hp'
      obtain ⟨q', c', hq', hc', ho'⟩ := hR.obj _ _ h2
      rw [hq] at hq'; cases hq'
      cases c <;> simp only [OR] at ho
      rename_i cs ce fr
      cases c' <;> simp only [OR] at ho'
      rename_i cs' ce' fr'
      have hfr : ∀ k, w.frozen? ⟨p.b, k, none⟩ = false := by
        intro k
        cases hf : w.frozen? ⟨p.b, k, none⟩ with
        | false => rfl
        | true =>
          simp [World.frozen?, hc] at hf
          have := ho.2.2.2.2.2.2 k hf.1 hf.2
          omega
      have hfr' : ∀ k, w.frozen? ⟨q.b, k, none⟩ = false := by
        intro k
        cases hf : w.frozen? ⟨q.b, k, none⟩ with
        | false => rfl
        | true =>
          simp [World.frozen?, hc'] at hf
          have := ho'.2.2.2.2.2.2 k hf.1 hf.2
          omega
      have hsh : w.shape? p.b = some (ce, cs.size) := by simp [World.shape?, hc]
      have hsh' : w.shape? q.b = some (ce', cs'.size) := by simp [World.shape?, hc']
      have hsz := run_siz ok hn
      have hv : ∀ (z : Addr), w.shape? z.block = some (ce, cs.size) → (noView z).run C.P w = .ok () w := by
        intro z hz; simp [noView, viewAt, hz]
      have hv' : ∀ (z : Addr), w.shape? z.block = some (ce', cs'.size) → (noView z).run C.P w = .ok () w := by
        intro z hz; simp [noView, viewAt, hz]
      have hst : ∀ k, (stringish ⟨p.b, k, none⟩).run C.P w = .ok false w := by intro k; simp [stringish, hfr, hsh]
      have hst' : ∀ k, (stringish ⟨q.b, k, none⟩).run C.P w = .ok false w := by intro k; simp [stringish, hfr', hsh']
      have hmay : ∀ k l, (mayBeOne ⟨p.b, k, none⟩ ⟨q.b, l, none⟩).run C.P w = .ok false w := by
        intro k l; simp [mayBeOne, hst, hst']
      by_cases hbb : a.block = b.block
      · have hpq : p = q := by rw [hbb] at hp; rw [hp] at hq; exact Option.some.inj hq
        subst hpq
        rw [hbb, Nat.beq_refl] at h
        simp only [if_true, Option.some.injEq] at h
        subst h
        simp [Op.equalIn, run_und ok hu, hsz, sameAddr]
        rw [Bool.eq_iff_iff]; simp [Nat.beq_eq]
      · have hne : p.b ≠ q.b := fun e => hbb (hR.inj _ _ _ _ _ _ h1 h2 hp hq e)
        have : Nat.beq a.block b.block = false := by
          cases hx : Nat.beq a.block b.block with
          | false => rfl
          | true => exact absurd (Nat.eq_of_beq_eq_true hx) hbb
        rw [this] at h
        simp only [Bool.false_eq_true, if_false, Option.some.injEq] at h
        subst h
        simp [Op.equalIn, run_und ok hu, hsz, sameAddr, hne, hfr, hv ⟨p.b, a.off, none⟩ hsh, hv' ⟨q.b, b.off, none⟩ hsh', hmay]
    · cases h
  · cases h

theorem equal_of {P : Program} {t : TypeId} {a b : Value} {r : Bool} {w : World} (h : ∀ d, (Op.equalIn (d + 1 + 1) t a b).run P w = .ok r w) : (Op.equal t a b).run P w = .ok r w := h 9998

include ok in
theorem aBin_ok (hR : Rel C Φ s w) {op : BinOp} {t : TypeId} {x y : Operand} {a b a' b' v : Value} (h : aBin C.E s op t (isC x || isC y) a b = some v) (ha : VR Φ a a') (hb : VR Φ b b') :
    ∃ v', (do eqGuard op t x y a' b'; binOp op t a' b' : Sem Value).run C.P w = .ok v' w ∧ VR Φ v v' := by
  unfold aBin at h
  split at h
  · rename_i k n k' m
    cases ha.int_inv; cases hb.int_inv
    have hg : (eqGuard op t x y (.int k n) (.int k' m)).run C.P w = .ok () w := by cases op <;> simp [eqGuard]
    split at h
    · exact ⟨v, by simp [hg, aShift_ok h], .flat v (aShift_flat h)⟩
    · exact ⟨v, by simp [hg, aShift_ok h], .flat v (aShift_flat h)⟩
    · split at h
      · rename_i e; subst e
        exact ⟨v, by simp [hg, aInt_ok h], .flat v (aInt_flat h)⟩
      · cases h
  · rename_i n m
    cases ha.str_inv; cases hb.str_inv
    have hg : (eqGuard op t x y (.string n) (.string m)).run C.P w = .ok () w := by cases op <;> simp [eqGuard]
    exact ⟨v, by simp [hg, aStr_ok h], .flat v (aStr_flat h)⟩
  · rename_i n m
    have hq : ∀ r op', eqPtr C.E s t n m = some r → (eqGuard op' t x y a' b').run C.P w = .ok () w ∧ (Op.equal t a' b').run C.P w = .ok r w ∧ ByEq t a' b' := by
      intro r op' hr
      obtain ⟨h1, h2⟩ := eqPtr_ok ok hR (x := x) (y := y) hr ha hb op'
      obtain ⟨_, p, _, rfl⟩ := ha.ptr_inv
      obtain ⟨_, q, _, rfl⟩ := hb.ptr_inv
      exact ⟨h2, equal_of h1, rfl, rfl⟩
    split at h
    · rename_i r hr
      cases h
      obtain ⟨h1, h2, h3, _⟩ := hq r .eql hr
      exact ⟨.bool r, by rw [h3]; simp [h1, h2], .bool Φ r⟩
    · rename_i r hr
      cases h
      obtain ⟨h1, h2, _, h3⟩ := hq r .neq hr
      exact ⟨.bool (!r), by rw [h3]; simp [h1, h2], .bool Φ _⟩
    · cases h
  · rename_i hn1 hn2 hn3
    have hq : ∀ r op', eqV C.E t (isC x || isC y) a b = some r → (eqGuard op' t x y a' b').run C.P w = .ok () w ∧ (Op.equal t a' b').run C.P w = .ok r w ∧ ByEq t a' b' := by
      intro r op' hr
      obtain ⟨h1, h2, h3⟩ := eqV_ok ok hr ha hb op' w
      exact ⟨h2, equal_of h1, h3 (fun k n k' m e1 e2 => hn1 k n k' m e1 e2) (fun n m e1 e2 => hn2 n m e1 e2)⟩
    split at h
    · rename_i r hr
      cases h
      obtain ⟨h1, h2, h3, _⟩ := hq r .eql hr
      exact ⟨.bool r, by rw [h3]; simp [h1, h2], .bool Φ r⟩
    · rename_i r hr
      cases h
      obtain ⟨h1, h2, _, h3⟩ := hq r .neq hr
      exact ⟨.bool (!r), by rw [h3]; simp [h1, h2], .bool Φ _⟩
    · cases h
end
end Go.Abs
set_option linter.unusedSectionVars false
namespace Go.Abs
open Go Go.RowKit
variable [Toks]
variable {ds : List Deferred}

theorem over_length {α : Type} : ∀ (l : List α) (k : Nat) (xs : List α), k + xs.length ≤ l.length → (over l k xs).length = l.length := by
  intro l
  induction l with
  | nil => intro k xs h; cases k <;> simp_all [over]
  | cons x l ih =>
    intro k xs h
    cases k with
    | zero => simp only [over, List.length_append, List.length_drop]; simp at h ⊢; omega
    | succ k => simp only [over, List.length_cons]; rw [ih]; simp at h ⊢; omega
theorem over_get {α : Type} : ∀ (l : List α) (k : Nat) (xs : List α) (j : Nat), k + xs.length ≤ l.length → (over l k xs)[j]? = if k ≤ j ∧ j < k + xs.length then xs[j - k]? else l[j]? := by
  intro l
  induction l with
  | nil =>
    intro k xs j h
    cases k with
    | zero =>
      have : xs = [] := by cases xs with | nil => rfl | cons _ _ => simp at h
      subst this; simp [over]
    | succ k => simp at h
  | cons x l ih =>
    intro k xs j h
    cases k with
    | zero =>
      simp only [over, Nat.zero_add, Nat.zero_le, true_and, Nat.sub_zero]
      split
      · rename_i hj; rw [List.getElem?_append_left hj]
      · rename_i hj
        rw [List.getElem?_append_right (by omega), List.getElem?_drop]
        congr 1; omega
    | succ k =>
      simp only [over]
      cases j with
      | zero => simp
      | succ j =>
        simp only [List.getElem?_cons_succ]
        rw [ih k xs j (by simp at h; omega)]
        have e : (k + 1 ≤ j + 1 ∧ j + 1 < k + 1 + xs.length) ↔ (k ≤ j ∧ j < k + xs.length) := by omega
        by_cases hc : k ≤ j ∧ j < k + xs.length
        · rw [if_pos hc, if_pos (e.2 hc)]; congr 1; omega
        · rw [if_neg hc, if_neg (fun h => hc (e.1 h))]
theorem VRs.over {Φ : Ph} {xs us ys ws : List Value} (h : VRs Φ xs us) (k : VRs Φ ys ws) (n : Nat) (hb : n + ys.length ≤ xs.length) : VRs Φ (Abs.over xs n ys) (Abs.over us n ws) := by
  have hb' : n + ws.length ≤ us.length := by rw [← h.1, ← k.1]; exact hb
  refine ⟨by rw [over_length _ _ _ hb, over_length _ _ _ hb', h.1], fun j v v' a b => ?_⟩
  rw [over_get _ _ _ _ hb] at a
  rw [over_get _ _ _ _ hb'] at b
  by_cases hc : n ≤ j ∧ j < n + ys.length
  · rw [if_pos hc] at a
    rw [if_pos (by rw [← k.1]; exact hc)] at b
    exact k.2 _ v v' a b
  · rw [if_neg hc] at a
    rw [if_neg (by rw [← k.1]; exact hc)] at b
    exact h.2 _ v v' a b

theorem fold_over (off : Nat) : ∀ (l : List Value) (n : Nat) (cs : Array Value), off + n + l.length ≤ cs.size →
    ((l.zipIdx n).foldl (fun cs (c : Value × Nat) => cs.setIfInBounds (off + c.2) c.1) cs).toList = over cs.toList (off + n) l := by
  intro l
  induction l with
  | nil =>
    intro n cs h
    simp only [List.zipIdx_nil, List.foldl_nil]
    apply List.ext_getElem?
    intro j
    rw [over_get _ _ _ _ (by simpa using h)]
    rw [if_neg (by rw [List.length_nil]; omega)]
  | cons c l ih =>
    intro n cs h
    simp only [List.zipIdx_cons, List.foldl_cons]
    rw [ih (n + 1) _ (by simp at h ⊢; omega)]
    apply List.ext_getElem?
    intro j
    simp only [List.length_cons] at h
    rw [over_get _ _ _ _ (by simp; omega), over_get _ _ _ _ (by simp; omega)]
    simp only [Array.toList_setIfInBounds, List.getElem?_set, List.length_cons, Array.length_toList]
    by_cases h1 : j = off + n
    · subst h1
      rw [if_neg (by omega), if_pos rfl, if_pos (by omega), if_pos (by omega)]
      simp
    · by_cases h2 : off + (n + 1) ≤ j ∧ j < off + (n + 1) + l.length
      · rw [if_pos h2, if_pos (by omega)]
        have : j - (off + n) = (j - (off + (n + 1))) + 1 := by omega
        rw [this]; simp
      · rw [if_neg h2, if_neg (fun e => h1 e.symm), if_neg (by omega)]

/-- parts: the same places, related values -/
def PR (Φ : Ph) : List (Nat × Value) → List (Nat × Value) → Prop
  | [], [] => True
  | (i, v) :: l, (j, u) :: r => i = j ∧ VR Φ v u ∧ PR Φ l r
  | _, _ => False

theorem fillL_ok {Φ : Ph} {place place' : Nat → Option (Nat × Nat)} (hp : ∀ i, place i = place' i) : ∀ {ps qs : List (Nat × Value)} {xs us r : List Value}, PR Φ ps qs → VRs Φ xs us → fillL place xs ps = some r →
    ∃ ur, Instr.fill place' ⟨us⟩ qs = some ⟨ur⟩ ∧ VRs Φ r ur := by
  intro ps
  induction ps with
  | nil =>
    intro qs xs us r h hx hf
    cases qs with
    | nil => simp only [fillL, Option.some.injEq] at hf; subst hf; exact ⟨us, rfl, hx⟩
    | cons _ _ => simp [PR] at h
  | cons q ps ih =>
    obtain ⟨i, v⟩ := q
    intro qs xs us r h hx hf
    cases qs with
    | nil => simp [PR] at h
    | cons q' qs =>
      obtain ⟨j, u⟩ := q'
      simp only [PR] at h
      obtain ⟨rfl, hv, hps⟩ := h
      simp only [fillL] at hf
      cases hpl : place i with
      | none => simp [hpl] at hf
      | some os =>
        obtain ⟨off, size⟩ := os
        simp only [hpl] at hf
        split at hf
        · rename_i hc
          simp only [Bool.and_eq_true, decide_eq_true_eq] at hc
          obtain ⟨hc1, hc2⟩ := hc
          have hcells := hv.cells
          have hsz : u.cells.size = size := by rw [← hc1, hcells.1]; simp
          obtain ⟨ur, h1, h2⟩ := ih hps (hx.over hcells off (by rw [hc1]; exact hc2)) hf
          refine ⟨ur, ?_, h2⟩
          unfold Instr.fill
          rw [← hp i, hpl]
          have hlen : us.length = xs.length := hx.1.symm
          have hc' : (decide (u.cells.size ≠ size) || decide (off + u.cells.size > (⟨us⟩ : Array Value).size)) = false := by
            simp only [Bool.or_eq_false_iff, decide_eq_false_iff_not, ne_eq, Decidable.not_not]
            exact ⟨hsz, by show ¬ (off + u.cells.size > us.length); omega⟩
          simp only
          rw [if_neg (by rw [hc']; simp)]
          have he : (u.cells.zipIdx.foldl (fun cs (c : Value × Nat) => cs.setIfInBounds (off + c.2) c.1) ⟨us⟩) = (⟨over us off u.cells.toList⟩ : Array Value) := by
            apply Array.ext'
            have := fold_over off u.cells.toList 0 ⟨us⟩ (by show off + 0 + u.cells.toList.length ≤ us.length; simp; omega)
            simp only [Nat.add_zero] at this
            rw [← this, ← Array.foldl_toList]
            simp
          rw [he]; exact h1
        · cases hf

theorem FR.pairs {Φ : Ph} {fr : Fr} {a : Act} (h : FR ds Φ fr a) : ∀ {ps : List (Nat × Operand)} {qs : List (Nat × Value)}, Abs.pairs fr ps = some qs → PR Φ qs (ps.map fun (i, x) => (i, a.eval x)) := by
  intro ps
  induction ps with
  | nil => intro qs hq; simp only [Abs.pairs, Option.some.injEq] at hq; subst hq; trivial
  | cons q ps ih =>
    obtain ⟨i, x⟩ := q
    intro qs hq
    simp only [Abs.pairs] at hq
    cases h1 : Abs.opd fr x with
    | none => simp [h1] at hq
    | some v =>
      cases h2 : Abs.pairs fr ps with
      | none => simp [h1, h2] at hq
      | some r =>
        simp [h1, h2] at hq
        subst hq
        exact ⟨rfl, h.opd h1, ih h2⟩

section
variable {C : Ctx} (ok : POK C) {Φ : Ph} {s : AS} {w : World}

theorem VRs.cellsL_ground {v : Value} (h : ground v = true) : VRs Φ (cellsL v) v.cells.toList := (VR.ground h).cells

include ok in
theorem places_ok : ∀ {fs : List Field} {pl : List (Nat × Nat)}, placesL C.E.T fs = some pl → ∀ w, (fs.mapM fun f => do pure (f.offset, ← sizeOf f.type) : Sem (List (Nat × Nat))).run C.P w = .ok pl w := by
  intro fs
  induction fs with
  | nil => intro pl h w; simp only [placesL, Option.some.injEq] at h; subst h; simp
  | cons f fs ih =>
    intro pl h w
    simp only [placesL] at h
    cases h1 : siz C.E.T f.type with
    | none => simp [h1] at h
    | some n =>
      cases h2 : placesL C.E.T fs with
      | none => simp [h1, h2] at h
      | some r =>
        simp [h1, h2] at h
        subst h
        have := ih h2 w
        simp only [List.mapM_cons, Sem.run_bind, run_siz ok h1, Result.andThen_ok, Sem.run_pure, this]

include ok in
theorem build_ok {t : TypeId} {z : Value} {ps qs : List (Nat × Value)} {r : List Value} (hz : zeroL C.E.T t = some z) (hp : PR Φ ps qs) (w : World) :
    (∀ fs pl, und C.E.T t = some (.struct fs) → placesL C.E.T fs.toList = some pl → fillL (fun i => pl[i]?) (cellsL z) ps = some r →
      ∃ ur, (Instr.build t ⟨qs⟩).run C.P w = .ok (.agg ⟨ur⟩) w ∧ VRs Φ r ur) ∧
    (∀ m e n, und C.E.T t = some (.array m e) → siz C.E.T e = some n → fillL (fun i => some (i * n, n)) (cellsL z) ps = some r →
      ∃ ur, (Instr.build t ⟨qs⟩).run C.P w = .ok (.agg ⟨ur⟩) w ∧ VRs Φ r ur) := by
  obtain ⟨i, _, _, hg⟩ := zero_of ok hz
  have hcs : VRs Φ (cellsL z) z.cells.toList := VRs.cellsL_ground hg
  refine ⟨fun fs pl hu hpl hf => ?_, fun m e n hu hn hf => ?_⟩
  · obtain ⟨ur, h1, h2⟩ := fillL_ok (place' := (pl.toArray[·]?)) (fun i => by simp) hp hcs hf
    refine ⟨ur, ?_, h2⟩
    have hm : (fs.mapM fun f => do pure (f.offset, ← sizeOf f.type) : Sem (Array (Nat × Nat))).run C.P w = .ok pl.toArray w := by
      obtain ⟨fl⟩ := fs
      have h3 := places_ok ok hpl w
      rw [show (⟨fl⟩ : Array Field) = fl.toArray from rfl, List.mapM_toArray]
      simp only [Sem.run_map]
      rw [show (fl.toArray).toList = fl from rfl] at h3
      rw [h3]; rfl
    unfold Instr.build
    simp only [Sem.run_bind, run_zero ok hz, run_und ok hu, Result.andThen_ok, hm]
    have : Instr.fill (pl.toArray[·]?) z.cells qs = some ⟨ur⟩ := h1
    rw [this]; rfl
  · obtain ⟨ur, h1, h2⟩ := fillL_ok (place' := fun i => some (i * n, n)) (fun i => rfl) hp hcs hf
    refine ⟨ur, ?_, h2⟩
    unfold Instr.build
    simp only [Sem.run_bind, run_zero ok hz, run_und ok hu, Result.andThen_ok, run_siz ok hn]
    have : Instr.fill (fun i => some (i * n, n)) z.cells qs = some ⟨ur⟩ := h1
    rw [this]; rfl

include ok in
theorem part_ok {t : TypeId} {xs us : List Value} {off : Nat} {v : Value} (h : partL C.E.T t xs off = some v) (hx : VRs Φ xs us) (w : World) :
    ∃ v', (part t ⟨us⟩ off).run C.P w = .ok v' w ∧ VR Φ v v' := by
  unfold partL at h
  split at h
  · rename_i n ha hs
    split at h
    · rename_i l hl
      cases h
      obtain ⟨h1, h2, h3⟩ := sub_len hl
      refine ⟨.agg ⟨(us.drop off).take n⟩, ?_, .mkAgg (h2 ▸ (hx.drop off).take n)⟩
      have e : off + n - off = n := by omega
      simp [part, run_agg ok ha, run_siz ok hs, List.extract_eq_take_drop, e]
    · cases h
  · rename_i n ha hs
    obtain ⟨v', h1, h2⟩ := hx.get h
    exact ⟨v', by simp [part, run_agg ok ha, h1], h2⟩
  · cases h
end
end Go.Abs
set_option linter.unusedSectionVars false
namespace Go.Abs
open Go Go.RowKit
variable [Toks]
variable {ds : List Deferred}
section
variable {C : Ctx} (ok : POK C) {Φ : Ph} {s : AS} {w : World}

/-! slice expressions -/
def VRo (Φ : Ph) : Option Value → Option Value → Prop
  | none, none => True
  | some v, some u => VR Φ v u
  | _, _ => False

theorem FR.opO {fr : Fr} {a : Act} (h : FR ds Φ fr a) {x : Option Operand} {v : Option Value} (hv : opO fr x = some v) : VRo Φ v (x.map a.eval) := by
  cases x with
  | none => simp only [Abs.opO, Option.some.injEq] at hv; subst hv; trivial
  | some x =>
    simp only [Abs.opO] at hv
    cases h1 : Abs.opd fr x with
    | none => simp [h1] at hv
    | some u => simp [h1] at hv; subst hv; exact h.opd h1

theorem run_bound {k : IntKind} {x : Int} {y : Nat} (code : BoundsCode) (h0 : 0 ≤ x) (h1 : x ≤ y) (P : Program) (w : World) :
    (Instr.sliceBound (.int k x) y code).run P w = .ok x.toNat w := by
  simp [Instr.sliceBound, asIntOf, h0, h1]

theorem aNum_inv {d n : Nat} {x x' : Option Value} (h : aNum d x = some n) (hx : VRo Φ x x') : (x = none ∧ x' = none ∧ n = d) ∨ ∃ k i, x' = some (.int k i) ∧ x.isSome = true ∧ 0 ≤ i ∧ i.toNat = n := by
  cases x with
  | none =>
    cases x' with
    | none => simp only [aNum, Option.some.injEq] at h; exact .inl ⟨rfl, rfl, h.symm⟩
    | some _ => exact hx.elim
  | some v =>
    cases x' with
    | none => exact hx.elim
    | some u =>
      cases v <;> simp only [aNum] at h <;> (try cases h)
      rename_i k i
      split at h
      · rename_i h0
        cases h
        cases (show VR Φ (.int k i) u from hx).int_inv
        exact .inr ⟨k, i, rfl, rfl, h0, rfl⟩
      · cases h

theorem bounds_ok {isSlice : Bool} {len cap cap' : Nat} {lo hi mx lo' hi' mx' : Option Value} {l h m : Nat} (hlo : VRo Φ lo lo') (hhi : VRo Φ hi hi') (hmx : VRo Φ mx mx') (hc : cap ≤ cap')
    (hb : aSliceBounds len cap lo hi mx = some (l, h, m)) (P : Program) (w : World) :
    (Instr.sliceBounds isSlice len cap' lo' hi' mx').run P w = .ok (l, h, if mx.isSome then m else cap') w ∧ (mx.isSome = false → m = cap) ∧ l ≤ h ∧ h ≤ m ∧ m ≤ cap := by
  unfold aSliceBounds at hb
  split at hb
  · rename_i l0 h0 m0 e1 e2 e3
    split at hb
    · rename_i hcond
      simp only [Bool.and_eq_true, decide_eq_true_eq, Bool.or_eq_true] at hcond
      obtain ⟨⟨⟨c1, c2⟩, c3⟩, c4⟩ := hcond
      simp only [Option.some.injEq, Prod.mk.injEq] at hb
      obtain ⟨rfl, rfl, rfl⟩ := hb
      refine ⟨?_, fun hn => ?_, c1, c2, c3⟩
      · have G : ∀ (k : IntKind) (i : Int) (y : Nat) (c : BoundsCode), 0 ≤ i → i.toNat ≤ y → (Instr.sliceBound (.int k i) y c).run P w = .ok i.toNat w := fun k i y c a b => run_bound c a (by omega) P w
        rcases aNum_inv e1 hlo with ⟨rfl, rfl, rfl⟩ | ⟨k1, i1, rfl, s1, p1, rfl⟩ <;>
        rcases aNum_inv e2 hhi with ⟨rfl, rfl, rfl⟩ | ⟨k2, i2, rfl, s2, p2, rfl⟩ <;>
        rcases aNum_inv e3 hmx with ⟨rfl, rfl, rfl⟩ | ⟨k3, i3, rfl, s3, p3, rfl⟩
        · simp [Instr.sliceBounds]
        · exfalso; revert c4 s3; cases mx <;> simp
        · simp [Instr.sliceBounds, G _ _ cap' _ p2 (by omega)]
        · simp [Instr.sliceBounds, G _ _ cap' _ p3 (by omega), G _ _ i3.toNat _ p2 (by omega), s3]
        · simp [Instr.sliceBounds, G _ _ h0 _ p1 (by omega)]
        · exfalso; revert c4 s3; cases mx <;> simp
        · simp [Instr.sliceBounds, G _ _ cap' _ p2 (by omega), G _ _ i2.toNat _ p1 (by omega)]
        · simp [Instr.sliceBounds, G _ _ cap' _ p3 (by omega), G _ _ i3.toNat _ p2 (by omega), G _ _ i2.toNat _ p1 (by omega), s3]
      · rcases aNum_inv e3 hmx with ⟨rfl, rfl, rfl⟩ | ⟨k3, i3, rfl, s3, p3, rfl⟩
        · rfl
        · rw [hn] at s3; cases s3
    · cases hb
  · cases hb

theorem add_off (b off k : Nat) : Addr.add ⟨b, off, none⟩ k = ⟨b, off + k, none⟩ := by unfold Addr.add; split <;> simp_all

include ok in
theorem aSlice_ok (hR : Rel C Φ s w) {t : TypeId} {x x' v : Value} {lo hi mx lo' hi' mx' : Option Value} (h : aSlice C.E.T s t x lo hi mx = some v) (hx : VR Φ x x') (hlo : VRo Φ lo lo') (hhi : VRo Φ hi hi') (hmx : VRo Φ mx mx') :
    ∃ v', (Instr.sliceAt t x' lo' hi' mx').run C.P w = .ok v' w ∧ VR Φ v v' := by
  unfold aSlice at h
  split at h
  · rename_i b hu
    cases hx.str_inv
    split at h
    · cases h
    · simp only at h
      cases mx' with
      | some _ => exact hmx.elim
      | none =>
        split at h
        · rename_i l r m hb
          cases h
          obtain ⟨h1, _⟩ := bounds_ok (isSlice := false) hlo hhi (mx := none) (mx' := none) trivial (Nat.le_refl _) hb C.P w
          refine ⟨_, ?_, .flat _ rfl⟩
          rw [← ba_size] at h1
          simp [Instr.sliceAt, Instr.slice, run_und ok hu, h1, ba_extract, mkStr]
        · cases h
  · rename_i e hu
    split at h
    · rename_i n b hn hb
      cases h
      obtain ⟨l, r, m⟩ := b
      obtain ⟨_, _, rfl⟩ := hx.nilslice_inv
      obtain ⟨h1, h2, h3, h4, h5⟩ := bounds_ok (isSlice := true) (cap' := 0) hlo hhi hmx (Nat.le_refl _) hb C.P w
      refine ⟨.slice none 0 0, ?_, .flat _ rfl⟩
      have hm : (if mx.isSome = true then m else 0) = 0 := by split <;> omega
      rw [hm] at h1
      have hr : r - l = 0 := by omega
      have hl : l = 0 := by omega
      subst hl
      simp [Instr.sliceAt, Instr.slice, run_und ok hu, h1, run_siz ok hn, hr]
    · cases h
  · rename_i e a len c2 hu
    split at h
    · rename_i n l r m hn hb
      obtain ⟨hsp, p, cap, hp, rfl, q1, q2, q3⟩ := hx.slice_inv
      obtain ⟨h1, h2, h3, h4, h5⟩ := bounds_ok (isSlice := true) (cap' := cap) hlo hhi hmx q2 hb C.P w
      obtain ⟨ab, ao, asp⟩ := a
      simp only at hsp; subst hsp
      simp only at h hp q3 ⊢
      generalize hm' : (if mx.isSome = true then m else cap) = m' at h1
      have hrun : (Instr.sliceAt t (.slice (some ⟨p.b, ao, none⟩) len cap) lo' hi' mx').run C.P w = .ok (.slice (if m' = l then some ⟨p.b, ao, none⟩ else some (Addr.add ⟨p.b, ao, none⟩ (l * n))) (r - l) (m' - l)) w := by
        simp [Instr.sliceAt, Instr.slice, run_und ok hu, h1, run_siz ok hn]
      rw [add_off] at hrun
      split at h
      · rename_i hex
        have hmm : m' = m := by
          rw [← hm']
          by_cases hs : mx.isSome = true
          · rw [if_pos hs]
          · rw [if_neg hs]
            have : mx.isSome = false := by simpa using hs
            rw [h2 this]
            rw [this] at hex
            simp at hex
            exact q1 hex
        subst hmm
        split at h
        · rename_i hml
          cases h
          refine ⟨_, hrun, ?_⟩
          rw [if_pos hml, show r - l = 0 by omega, show m' - l = 0 by omega]
          exact .slice ab ao 0 0 0 p hp (fun _ => rfl) (Nat.le_refl _) (fun h => by simp at h)
        · rename_i hml
          cases h
          refine ⟨_, hrun, ?_⟩
          rw [if_neg hml]
          exact .slice ab (ao + l * n) (r - l) _ (m' - l) p hp (fun _ => by omega) (by omega) (fun h => by omega)
      · rename_i hex
        simp at hex
        obtain ⟨hx1, hx2⟩ := hex
        have hmn : mx.isSome = false := by rw [hx1]; rfl
        rw [hmn] at hm'
        simp at hm'
        subst hm'
        have hmc := h2 hmn
        split at h
        · rename_i hel
          unfold elemIs at hel
          split at hel
          · rename_i e' vs o lo2 hi2 hs
            have hee : e' = e := Nat.eq_of_beq_eq_true hel
            obtain ⟨p', c, hp', hc, ho⟩ := hR.obj _ _ hs
            rw [hp] at hp'; cases hp'
            have hz : p.z = n := by
              cases c <;> simp only [OR] at ho
              rw [ho.2.2.1, hee]
              exact (siz_of ok hn).choose_spec.2.2
            have hodd : c2 % 2 = 1 := by omega
            have hb3 := q3 hodd
            split at h
            · rename_i hl; subst hl
              cases h
              refine ⟨_, hrun, ?_⟩
              have hz0 : (if cap = 0 then some (⟨p.b, ao, none⟩ : Addr) else some ⟨p.b, ao + 0 * n, none⟩) = some ⟨p.b, ao, none⟩ := by split <;> simp
              rw [hz0]
              exact .slice ab ao r _ cap p hp (fun h => by omega) (by omega) (fun _ => hb3)
            · rename_i hl
              split at h
              · cases h
              · rename_i hml
                cases h
                refine ⟨_, hrun, ?_⟩
                rw [if_neg (by omega)]
                refine .slice ab (ao + l * n) (r - l) _ (cap - l) p hp (fun h => by omega) (by omega) (fun _ => ?_)
                rw [hz] at hb3 ⊢
                have : l * n + (cap - l) * n = cap * n := by rw [← Nat.add_mul]; congr 1; omega
                omega
          · cases hel
        · cases h
    · cases h
  · rename_i n e a hu
    split at h
    · rename_i z l r m hz hb
      obtain ⟨hsp, p, hp, rfl⟩ := hx.ptr_inv
      obtain ⟨h1, h2, h3, h4, h5⟩ := bounds_ok (isSlice := false) (cap' := n) hlo hhi hmx (Nat.le_refl _) hb C.P w
      obtain ⟨ab, ao, asp⟩ := a
      simp only at hsp; subst hsp
      split at h
      · cases h
      · rename_i hml
        cases h
        have hm' : (if mx.isSome = true then m else n) = m := by
          by_cases hs : mx.isSome = true
          · rw [if_pos hs]
          · rw [if_neg hs]; exact (h2 (by simpa using hs)).symm
        rw [hm'] at h1
        refine ⟨.slice (some ⟨p.b, ao + l * z, none⟩) (r - l) (m - l), ?_, .slice ab (ao + l * z) (r - l) _ (m - l) p hp (fun _ => by omega) (by omega) (fun h => by omega)⟩
        simp [Instr.sliceAt, Instr.sureAddr, run_und ok hu, h1, run_siz ok hz, hml, add_off]
    · cases h
  · cases h
end
end Go.Abs
set_option linter.unusedSectionVars false
namespace Go.Abs
open Go Go.RowKit
variable [Toks]
variable {ds : List Deferred}
section
variable {C : Ctx} (ok : POK C) {Φ : Ph} {s : AS} {w : World}

/-! keys -/
theorem keyEq_now {T : Tr TypeInfo} {t : TypeId} {d : TypeDesc} {k q k' q' : Value} {b : Bool} (hu : und T t = some d) (hp : isPlainT T t k = true) (h : keyEq k q = some b) (hk : VR Φ k k') (hq : VR Φ q q') :
    Instr.sameNow d k' q' = some b := by
  rcases isPlainT_inv hp with ⟨hu', x, rfl⟩ | ⟨kk, n, j, hu', rfl⟩ | ⟨hu', x, rfl⟩ <;> rw [hu] at hu' <;> cases hu'
  · cases q <;> simp only [keyEq] at h <;> (try cases h)
    cases hk.bool_inv; cases hq.bool_inv; rfl
  · cases q <;> simp only [keyEq] at h <;> (try cases h)
    cases hk.int_inv; cases hq.int_inv
    split at h
    · rename_i e; subst e; cases h; simp [Instr.sameNow]
    · cases h
  · cases q <;> simp only [keyEq] at h <;> (try cases h)
    cases hk.str_inv; cases hq.str_inv
    simp only [Instr.sameNow, beq_toListBytes, ba_toList, beqL_beq]

def ER (Φ : Ph) (es : List (Value × Value)) (ces : List MapEntry) : Prop :=
  es.length = ces.length ∧ ∀ (k : Nat) q v, es[k]? = some (q, v) → ∃ ce, ces[k]? = some ce ∧ VR Φ q ce.key ∧ VR Φ v ce.val
theorem ER.cons_inv {q v : Value} {es : List (Value × Value)} {ces : List MapEntry} (h : ER Φ ((q, v) :: es) ces) : ∃ ce r, ces = ce :: r ∧ VR Φ q ce.key ∧ VR Φ v ce.val ∧ ER Φ es r := by
  cases ces with
  | nil => exact absurd h.1 (by simp)
  | cons ce r =>
    obtain ⟨ce', h1, h2, h3⟩ := h.2 0 q v rfl
    simp at h1; subst h1
    exact ⟨ce, r, rfl, h2, h3, by have := h.1; simpa using this, fun k q v hk => by simpa using h.2 (k + 1) q v (by simpa using hk)⟩

/-- what is found, and what the model finds -/
def FoundR (Φ : Ph) : Option (Nat × Value) → Option (Nat × Value) → Prop
  | none, none => True
  | some (i, v), some (j, u) => i = j ∧ VR Φ v u
  | _, _ => False

theorem findE_ok {T : Tr TypeInfo} {t : TypeId} {d : TypeDesc} {k k' : Value} (hu : und T t = some d) (hp : isPlainT T t k = true) (hk : VR Φ k k') : ∀ {es : List (Value × Value)} {ces : List MapEntry} {i : Nat} {r}, ER Φ es ces → findE k es i = some r →
    ∃ r', Instr.findNow d k' ces i = some r' ∧ FoundR Φ r r' := by
  intro es
  induction es with
  | nil =>
    intro ces i r he hf
    have : ces = [] := by have := he.1; cases ces with | nil => rfl | cons _ _ => simp at this
    subst this
    simp only [findE, Option.some.injEq] at hf; subst hf
    exact ⟨none, rfl, trivial⟩
  | cons e es ih =>
    obtain ⟨q, v⟩ := e
    intro ces i r he hf
    obtain ⟨ce, rs, rfl, h1, h2, h3⟩ := he.cons_inv
    simp only [findE] at hf
    split at hf
    · rename_i hb
      cases hf
      refine ⟨some (i, ce.val), ?_, rfl, h2⟩
      simp [Instr.findNow, keyEq_now hu hp hb hk h1]
    · rename_i hb
      obtain ⟨r', h4, h5⟩ := ih h3 hf
      refine ⟨r', ?_, h5⟩
      simp [Instr.findNow, keyEq_now hu hp hb hk h1, h4]
    · cases hf

theorem forIn_yield {P : Program} {β : Type} (B : β → PUnit → Sem (ForInStep PUnit)) : ∀ {l : List β}, (∀ f ∈ l, ∀ w, (B f PUnit.unit).run P w = .ok (ForInStep.yield PUnit.unit) w) → ∀ w, (forIn l PUnit.unit B).run P w = .ok PUnit.unit w := by
  intro l
  induction l with
  | nil => intro _ w; rfl
  | cons f l ih =>
    intro h w
    rw [List.forIn_cons, Sem.run_bind, h f (by simp) w]
    exact ih (fun g hg => h g (by simp [hg])) w

include ok in
theorem checkFields_ok {xs us : List Value} (hx : VRs Φ xs us) (em : Bool) (n : Nat) {fs : List Field}
    (h : (fs.all fun f => (match aggT C.E.T f.type with | some false => true | _ => false) && (match und C.E.T f.type with | some (.int _) | some .string | some .bool => true | _ => false) && (xs[f.offset]?).isSome) = true) :
    ∀ f ∈ fs, ∃ u, (∀ w, (part f.type ⟨us⟩ f.offset).run C.P w = .ok u w) ∧ ∀ w, (Instr.checkKey em (n + 1) f.type u).run C.P w = .ok () w := by
  intro f hf
  have h := (List.all_eq_true.1 h) f hf
  simp only [Bool.and_eq_true] at h
  obtain ⟨⟨h1, h2⟩, h3⟩ := h
  obtain ⟨x, hx1⟩ := Option.isSome_iff_exists.1 h3
  obtain ⟨u, hu1, hu2⟩ := hx.get hx1
  have ha : aggT C.E.T f.type = some false := by
    revert h1; split <;> simp_all
  refine ⟨u, fun w => by simp [part, run_agg ok ha, hu1], fun w => ?_⟩
  unfold Instr.checkKey
  revert h2
  split
  · rename_i hd; intro _; rw [Sem.run_bind, run_und ok hd]; rfl
  · rename_i hd; intro _; rw [Sem.run_bind, run_und ok hd]; rfl
  · rename_i hd; intro _; rw [Sem.run_bind, run_und ok hd]; rfl
  · intro h; cases h

include ok in
theorem checkKey_ok {t : TypeId} {k k' : Value} (h : flatKey C.E.T t k = true) (hk : VR Φ k k') (em : Bool) (w : World) : (Instr.checkKey em 10000 t k').run C.P w = .ok () w := by
  have key : ∀ n, (Instr.checkKey em (n + 1 + 1) t k').run C.P w = .ok () w := by
    intro n
    unfold Instr.checkKey
    unfold flatKey at h
    split at h
    · rename_i hd; rw [Sem.run_bind, run_und ok hd]; rfl
    · rename_i hd; rw [Sem.run_bind, run_und ok hd]; rfl
    · rename_i hd; rw [Sem.run_bind, run_und ok hd]; rfl
    · rename_i hd; rw [Sem.run_bind, run_und ok hd]; rfl
    · rename_i fs hd
      split at h
      · rename_i cs
        obtain ⟨us, rfl, hus⟩ := hk.agg_inv
        rw [Sem.run_bind, run_und ok hd]
        simp only [Result.andThen_ok]
        have hc := checkFields_ok ok hus em n h
        rw [← Array.forIn_toList]
        rw [Sem.run_bind]
        refine (congrArg (fun r => Result.andThen r _) (forIn_yield _ (fun f hf w => ?_) w)).trans rfl
        obtain ⟨u, h1, h2⟩ := hc f hf
        by_cases hn : f.name = "_"
        · simp [hn]
        · simp [hn, h1, h2]
      · cases h
    · cases h
  exact key 9998

include ok in
theorem findM_ok {t : TypeId} {d : TypeDesc} (hu : und C.E.T t = some d) {k k' : Value} {es : List (Value × Value)} {ces : List MapEntry} {r} (h : findM C.E.T t k es = some r) (hk : VR Φ k k') (he : ER Φ es ces) (w : World) :
    ∃ r', (Instr.findKey t k' ces).run C.P w = .ok r' w ∧ FoundR Φ r r' ∧ ∀ em, (Instr.checkKey em 10000 t k').run C.P w = .ok () w := by
  unfold findM at h
  split at h
  · rename_i hf
    split at h
    · cases h
      have : ces = [] := by have := he.1; cases ces with | nil => rfl | cons _ _ => simp at this
      subst this
      refine ⟨none, ?_, trivial, fun em => checkKey_ok ok hf hk em w⟩
      simp [Instr.findKey, run_und ok hu, Instr.findNow]
    · split at h
      · rename_i hp
        obtain ⟨r', h1, h2⟩ := findE_ok hu hp hk he h
        refine ⟨r', ?_, h2, fun em => checkKey_ok ok hf hk em w⟩
        simp [Instr.findKey, run_und ok hu, h1]
      · cases h
  · cases h

theorem Rel.map (hR : Rel C Φ s w) {r : Nat} {es : List (Value × Value)} {ver : Nat} {p : Pl} (hs : s.heap.get r = some (.map es ver)) (hp : Φ r = some p) :
    ∃ ces clock, w.heap[p.b]? = some (.map ces clock) ∧ ER Φ es ces.toList := by
  obtain ⟨q, c, h1, h2, h3⟩ := hR.obj r _ hs
  rw [hp] at h1; cases h1
  cases c <;> simp only [OR] at h3
  rename_i ces clock
  exact ⟨ces, clock, h2, by simpa using h3.1, fun k q v hk => by simpa using h3.2 k q v hk⟩

theorem run_getMap {b : Nat} {ces : Array MapEntry} {clock : Nat} (h : w.heap[b]? = some (.map ces clock)) (P : Program) : (getObj b).run P w = .ok (.map ces clock) w := by
  simp [getObj, Sem.run, h]

include ok in
theorem aLookup_ok (hR : Rel C Φ s w) {t : TypeId} {m k m' k' v : Value} {okb : Bool} (h : aLookup C.E.T s t m k okb = some v) (hm : VR Φ m m') (hk : VR Φ k k') :
    ∃ v', (Instr.lookup t m' k' okb).run C.P w = .ok v' w ∧ VR Φ v v' := by
  unfold aLookup at h
  split at h
  · rename_i kt et hu
    simp only at h
    split at h
    · cases h
    · rename_i es hes
      have hces : ∃ ces : Array MapEntry, ER Φ es ces.toList ∧ ((m' = .map none ∧ ces = #[]) ∨ ∃ b clock, m' = .map (some b) ∧ w.heap[b]? = some (.map ces clock)) := by
        split at hes
        · cases hes
          cases hm.nilmap_inv
          exact ⟨#[], ⟨rfl, fun k q v hk => by simp at hk⟩, .inl ⟨rfl, rfl⟩⟩
        · split at hes
          · rename_i r es' ver hs
            cases hes
            obtain ⟨p, hp, rfl⟩ := hm.map_inv
            obtain ⟨ces, clock, h1, h2⟩ := hR.map hs hp
            exact ⟨ces, h2, .inr ⟨_, clock, rfl, h1⟩⟩
          · cases hes
        · cases hes
      obtain ⟨ces, her, hces⟩ := hces
      have hd : ∃ d, und C.E.T kt = some d := by
        cases hk : und C.E.T kt with
        | some d => exact ⟨d, rfl⟩
        | none => simp [findM, flatKey, hk] at h
      obtain ⟨d, hd⟩ := hd
      split at h
      · rename_i i x hf
        cases h
        obtain ⟨r', h1, h2, h3⟩ := findM_ok ok hd hf hk her w
        cases r' with
        | none => exact h2.elim
        | some r' =>
          obtain ⟨j, u⟩ := r'
          obtain ⟨_, hxu⟩ := h2
          refine ⟨if okb then .tuple #[u, .bool true] else u, ?_, ?_⟩
          · rcases hces with ⟨rfl, rfl⟩ | ⟨b, clock, rfl, hb⟩
            · have h1' : (Instr.findKey kt k' []).run C.P w = .ok (some (j, u)) w := h1
              simp [Instr.lookup, run_und ok hu, h3, h1']
            · simp [Instr.lookup, run_und ok hu, run_getMap hb, h3, h1]
          · cases okb with
            | true => exact .tuple [x, .bool true] [u, .bool true] rfl ((VRs.cons hxu (VRs.cons (.bool Φ true) (VRs.nil Φ))).2)
            | false => exact hxu
      · rename_i hf
        split at h
        · rename_i z hz
          cases h
          obtain ⟨r', h1, h2, h3⟩ := findM_ok ok hd hf hk her w
          cases r' with
          | some r' => exact h2.elim
          | none =>
            have hg : VR Φ z z := by
              obtain ⟨_, _, _, hg⟩ := zero_of ok hz
              exact .ground hg
            refine ⟨if okb then .tuple #[z, .bool false] else z, ?_, ?_⟩
            · rcases hces with ⟨rfl, rfl⟩ | ⟨b, clock, rfl, hb⟩
              · have h1' : (Instr.findKey kt k' []).run C.P w = .ok none w := h1
                simp [Instr.lookup, run_und ok hu, h3, h1', run_zero ok hz]
              · simp [Instr.lookup, run_und ok hu, run_getMap hb, h3, h1, run_zero ok hz]
            · cases okb with
              | true => exact .tuple [z, .bool false] [z, .bool false] rfl ((VRs.cons hg (VRs.cons (.bool Φ false) (VRs.nil Φ))).2)
              | false => exact hg
        · cases h
      · cases h
  · cases h
end
end Go.Abs
set_option linter.unusedSectionVars false
namespace Go.Abs
open Go Go.RowKit
variable [Toks]
variable {ds : List Deferred}
section
variable {C : Ctx} (ok : POK C) {Φ : Ph} {s : AS} {w : World}

/-! builtins that leave the memory as it is -/
theorem fold_min {P : Program} {w : World} : ∀ {l : List Value} {x v : Value}, foldO aMin2 x l = some v → ∀ {x' : Value} {l' : List Value}, VR Φ x x' → VRs Φ l l' → (l'.foldlM Builtin.min2 x').run P w = .ok v w ∧ VR Φ v v ∨ (l = [] ∧ v = x ∧ l' = []) := by
  intro l
  induction l with
  | nil =>
    intro x v h x' l' hx hl
    simp only [foldO, Option.some.injEq] at h
    exact .inr ⟨rfl, h.symm, hl.nil_inv⟩
  | cons y l ih =>
    intro x v h x' l' hx hl
    obtain ⟨y', r, rfl, hy, hr⟩ := hl.head
    simp only [foldO] at h
    cases x <;> (try (simp only [aMin2] at h; cases h; done))
    rename_i k a
    cases y <;> simp only [aMin2] at h <;> (try cases h)
    rename_i k' b
    cases hx.int_inv; cases hy.int_inv
    have h0 : (Builtin.min2 (.int k a) (.int k' b)).run P w = .ok (.int k (if b < a then b else a)) w := rfl
    rcases ih h (.int Φ k _) hr with h1 | ⟨rfl, rfl, rfl⟩
    · exact .inl ⟨by simp [List.foldlM_cons, h0, h1.1], h1.2⟩
    · exact .inl ⟨by simp [List.foldlM_cons, h0], .int Φ k _⟩
theorem fold_max {P : Program} {w : World} : ∀ {l : List Value} {x v : Value}, foldO aMax2 x l = some v → ∀ {x' : Value} {l' : List Value}, VR Φ x x' → VRs Φ l l' → (l'.foldlM Builtin.max2 x').run P w = .ok v w ∧ VR Φ v v ∨ (l = [] ∧ v = x ∧ l' = []) := by
  intro l
  induction l with
  | nil =>
    intro x v h x' l' hx hl
    simp only [foldO, Option.some.injEq] at h
    exact .inr ⟨rfl, h.symm, hl.nil_inv⟩
  | cons y l ih =>
    intro x v h x' l' hx hl
    obtain ⟨y', r, rfl, hy, hr⟩ := hl.head
    simp only [foldO] at h
    cases x <;> (try (simp only [aMax2] at h; cases h; done))
    rename_i k a
    cases y <;> simp only [aMax2] at h <;> (try cases h)
    rename_i k' b
    cases hx.int_inv; cases hy.int_inv
    have h0 : (Builtin.max2 (.int k a) (.int k' b)).run P w = .ok (.int k (if b > a then b else a)) w := rfl
    rcases ih h (.int Φ k _) hr with h1 | ⟨rfl, rfl, rfl⟩
    · exact .inl ⟨by simp [List.foldlM_cons, h0, h1.1], h1.2⟩
    · exact .inl ⟨by simp [List.foldlM_cons, h0], .int Φ k _⟩

include ok in
theorem aLen_ok (hR : Rel C Φ s w) {t : TypeId} {x x' v : Value} (h : aLen C.E.T s t x = some v) (hx : VR Φ x x') (ats : Array TypeId) (ty : TypeId) (args : Array Value) (ha : ats[0]? = some t) (hb : args[0]? = some x') :
    (Builtin.len_ ats ty args).run C.P w = .ok v w ∧ VR Φ v v := by
  unfold aLen at h
  split at h
  · rename_i hu; cases h; cases hx.str_inv
    exact ⟨by rw [← ba_size]; simp [Builtin.len_, ha, hb, run_und ok hu, goInt], .flat _ rfl⟩
  · rename_i hu; cases h
    exact ⟨by simp [Builtin.len_, ha, hb, run_und ok hu, goInt], .flat _ rfl⟩
  · rename_i hu
    split at h
    · rename_i hu2; cases h
      exact ⟨by simp [Builtin.len_, ha, hb, run_und ok hu, run_und ok hu2, goInt], .flat _ rfl⟩
    · cases h
  · rename_i a n c hu; cases h
    have : ∃ a' c', x' = .slice a' n c' := by
      cases a with
      | none => obtain ⟨rfl, _, rfl⟩ := hx.nilslice_inv; exact ⟨_, _, rfl⟩
      | some a => obtain ⟨_, p, cap, _, rfl, _⟩ := hx.slice_inv; exact ⟨_, _, rfl⟩
    obtain ⟨a', c', rfl⟩ := this
    exact ⟨by simp [Builtin.len_, ha, hb, run_und ok hu, goInt], .flat _ rfl⟩
  · rename_i hu; cases h; cases hx.nilmap_inv
    exact ⟨by simp [Builtin.len_, ha, hb, run_und ok hu, goInt], .flat _ rfl⟩
  · rename_i r hu
    split at h
    · rename_i es ver hs; cases h
      obtain ⟨p, hp, rfl⟩ := hx.map_inv
      obtain ⟨ces, clock, h1, h2⟩ := hR.map hs hp
      have : es.length = ces.size := by rw [h2.1]; simp
      exact ⟨by simp [Builtin.len_, ha, hb, run_und ok hu, run_getMap h1, goInt, this], .flat _ rfl⟩
    · cases h
  · cases h

include ok in
theorem builtinQ_ok (hR : Rel C Φ s w) {b : Builtin} {ats : List TypeId} {xs us : List Value} {v : Value} (h : aBuiltinQ C.E s b ats xs = some v) (hx : VRs Φ xs us) (ty : TypeId) (cs : Array Bool) :
    ∃ v', (builtin b ⟨ats⟩ ty cs ⟨us⟩).run C.P w = .ok (.value v') w ∧ VR Φ v v' := by
  unfold aBuiltinQ at h
  split at h
  · rename_i t l x r
    obtain ⟨u, us', rfl, hu, _⟩ := hx.head
    obtain ⟨h1, h2⟩ := aLen_ok ok hR h hu ⟨t :: l⟩ ty ⟨u :: us'⟩ rfl rfl
    exact ⟨v, by simp only [builtin]; simp [h1], h2⟩
  · rename_i t l x r
    obtain ⟨u, us', rfl, hu, _⟩ := hx.head
    split at h
    · rename_i e a n c hd
      split at h
      · rename_i hc
        cases h
        have hc : c % 2 = 0 := Nat.eq_of_beq_eq_true hc
        have : ∃ a', u = .slice a' n (c / 2) := by
          cases a with
          | none => obtain ⟨rfl, rfl, rfl⟩ := hu.nilslice_inv; exact ⟨_, rfl⟩
          | some a => obtain ⟨_, p, cap, _, rfl, q, _⟩ := hu.slice_inv; exact ⟨_, by rw [q hc]⟩
        obtain ⟨a', rfl⟩ := this
        refine ⟨.int .i64 ((c / 2 : Nat) : Int), ?_, .flat _ rfl⟩
        simp only [builtin]
        simp [Builtin.cap_, run_und ok hd, goInt]
      · cases h
    · cases h
  · rename_i ts x l
    obtain ⟨u, us', rfl, hu, hr⟩ := hx.head
    rcases fold_min (P := C.P) (w := w) h hu hr with ⟨h1, h2⟩ | ⟨rfl, rfl, rfl⟩
    · exact ⟨v, by simp only [builtin]; simp [Builtin.min_, h1], h2⟩
    · exact ⟨u, by simp only [builtin]; simp [Builtin.min_], hu⟩
  · rename_i ts x l
    obtain ⟨u, us', rfl, hu, hr⟩ := hx.head
    rcases fold_max (P := C.P) (w := w) h hu hr with ⟨h1, h2⟩ | ⟨rfl, rfl, rfl⟩
    · exact ⟨v, by simp only [builtin]; simp [Builtin.max_, h1], h2⟩
    · exact ⟨u, by simp only [builtin]; simp [Builtin.max_], hu⟩
  · cases h

/-! a string from bytes -/
theorem pushAll {P : Program} (B : Value → ByteArray → Sem (ForInStep ByteArray)) (hB : ∀ n acc w, (B (.int .u8 n) acc).run P w = .ok (.yield (acc.push (UInt8.ofNat n.toNat))) w) : ∀ {l : List Value},
    (l.all fun c => match c with | .int .u8 _ => true | _ => false) = true → ∀ (acc : ByteArray) (w : World),
    (forIn l acc B).run P w = .ok ⟨⟨acc.data.toList ++ l.map fun c => match c with | .int _ b => UInt8.ofNat b.toNat | _ => 0⟩⟩ w := by
  intro l
  induction l with
  | nil => intro _ acc w; obtain ⟨⟨a⟩⟩ := acc; simp
  | cons c l ih =>
    intro h acc w
    simp only [List.all_cons, Bool.and_eq_true] at h
    obtain ⟨h1, h2⟩ := h
    have : ∃ n, c = .int .u8 n := by
      revert h1; split
      · intro _; exact ⟨_, rfl⟩
      · intro h; cases h
    obtain ⟨n, rfl⟩ := this
    rw [List.forIn_cons, Sem.run_bind, hB]
    simp only [Result.andThen_ok]
    rw [ih h2]
    simp [ByteArray.push]

theorem bytesToString_ok (hR : Rel C Φ s w) {i off n : Nat} {l : List Value} {p : Pl} {cap : Nat} (hl : loadC s i off n = some l) (hp : Φ i = some p)
    (hb : (l.all fun c => match c with | .int .u8 _ => true | _ => false) = true) :
    (Conv.bytesToString (.slice (some ⟨p.b, off, none⟩) n cap)).run C.P w = .ok (mkStr (l.map fun c => match c with | .int _ b => UInt8.ofNat b.toNat | _ => 0)) w := by
  obtain ⟨us, h1, _, _, h2⟩ := loadC_ok hR hl hp
  have hul : us = l := by
    apply List.ext_getElem?
    intro k
    have hlen := h1.1
    by_cases hk : k < l.length
    · have hx := List.getElem?_eq_getElem hk
      obtain ⟨u, hu, hr⟩ := h1.get hx
      have hmem := (List.all_eq_true.1 hb) l[k] (List.getElem_mem hk)
      rw [hu, hx]
      generalize l[k] = x at *
      have : ∃ n, x = .int .u8 n := by
        revert hmem; split
        · intro _; exact ⟨_, rfl⟩
        · intro h; cases h
      obtain ⟨n, rfl⟩ := this
      rw [hr.int_inv]
    · rw [List.getElem?_eq_none (by omega), List.getElem?_eq_none (by omega)]
  subst hul
  unfold Conv.bytesToString
  simp only [Sem.run_bind, h2, Result.andThen_ok]
  rw [← Array.forIn_toList]
  rw [pushAll _ (fun n acc w => by simp) hb]
  simp [mkStr]
end
end Go.Abs
set_option linter.unusedSectionVars false
namespace Go.Abs
open Go Go.RowKit
variable [Toks]
variable {ds : List Deferred}
section
variable {C : Ctx} (ok : POK C) {Φ : Ph} {s : AS} {w : World}

set_option maxHeartbeats 1000000 in
include ok in
theorem quiet0_ok (hR : Rel C Φ s w) {fr : Fr} {a : Act} (hF : FR ds Φ fr a) {op : Op} {v : Value} (h : aQuiet0 C.E fr s op = some v) (o : Oper) (ho : o.op = op) :
    ∃ v', (execOp a.eval o).run C.P w = .ok (.value v') w ∧ VR Φ v v' := by
  obtain ⟨dst, oop, ty, pos, after, guard⟩ := o
  simp only at ho
  subst ho
  unfold aQuiet0 at h
  split at h
  case h_1 => exact ⟨_, rfl, hF.opd h⟩
  case h_2 => exact ⟨_, rfl, hF.opd h⟩
  case h_3 =>
    rename_i c x y
    split at h
    · rename_i t p q h1 h2 h3
      cases h
      have e1 := (hF.opd h1).bool_inv
      refine ⟨if t then a.eval x else a.eval y, by simp [execOp, e1, asBool], ?_⟩
      cases t
      · exact hF.opd h3
      · exact hF.opd h2
    · cases h
  case h_4 =>
    rename_i t ps
    split at h
    · rename_i z l fs h1 h2 h3
      split at h
      · rename_i pl hpl
        split at h
        · rename_i cs hcs
          cases h
          obtain ⟨ur, r1, r2⟩ := (build_ok (r := cs) ok h1 (hF.pairs h2) w).1 fs pl h3 hpl hcs
          refine ⟨.agg ⟨ur⟩, ?_, .mkAgg r2⟩
          have e : (ps.map fun (x : Nat × Operand) => (x.1, a.eval x.2)) = (⟨ps.toList.map fun (x : Nat × Operand) => (x.1, a.eval x.2)⟩ : Array (Nat × Value)) := by apply Array.ext'; simp
          simp only [execOp, e, Sem.run_bind, Result.andThen_ok]
          rw [r1]; rfl
        · cases h
      · cases h
    · rename_i z l m e h1 h2 h3
      split at h
      · rename_i n hn
        split at h
        · rename_i cs hcs
          cases h
          obtain ⟨ur, r1, r2⟩ := (build_ok (r := cs) ok h1 (hF.pairs h2) w).2 m e n h3 hn hcs
          refine ⟨.agg ⟨ur⟩, ?_, .mkAgg r2⟩
          have e : (ps.map fun (x : Nat × Operand) => (x.1, a.eval x.2)) = (⟨ps.toList.map fun (x : Nat × Operand) => (x.1, a.eval x.2)⟩ : Array (Nat × Value)) := by apply Array.ext'; simp
          simp only [execOp, e, Sem.run_bind, Result.andThen_ok]
          rw [r1]; rfl
        · cases h
      · cases h
    · cases h
  case h_5 =>
    rename_i t x
    split at h
    · rename_i b h1
      obtain ⟨_, p, hp, e⟩ := (hF.opd h1).ptr_inv
      obtain ⟨v', r1, r2⟩ := loadV_ok ok hR h hp
      exact ⟨v', by simp [execOp, Instr.loadAt, Instr.sureAddr, e, r1], r2⟩
    · cases h
  case h_6 =>
    rename_i x
    split at h
    · rename_i b h1
      cases h
      have hv := hF.opd h1
      obtain ⟨_, p, hp, e⟩ := hv.ptr_inv
      exact ⟨a.eval x, by simp [execOp, e], hv⟩
    · rename_i f b c h1
      cases h
      have hv := hF.opd h1
      obtain ⟨us, ws, e, _⟩ := hv.func_inv
      exact ⟨a.eval x, by simp [execOp, e], hv⟩
    · rename_i t b h1
      cases h
      have hv := hF.opd h1
      obtain ⟨u, e, _⟩ := hv.iface_inv
      exact ⟨a.eval x, by simp [execOp, e], hv⟩
    · cases h
  case h_7 =>
    rename_i op t x y yt
    split at h
    · rename_i p q h1 h2
      obtain ⟨v', r1, r2⟩ := aBin_ok ok hR h (hF.opd h1) (hF.opd h2)
      exact ⟨v', by simp only [execOp, Sem.run_bind] at r1 ⊢; rw [r1]; rfl, r2⟩
    · cases h
  case h_8 =>
    rename_i op t x
    split at h
    · rename_i b h1
      cases h
      have e := (hF.opd h1).bool_inv
      exact ⟨.bool (!b), by simp [execOp, e, Op.unary], .bool Φ _⟩
    · rename_i k n h1
      cases h
      have e := (hF.opd h1).int_inv
      exact ⟨.int k (k.wrap (0 - n)), by simp [execOp, e, Op.unary, Op.intArith], .int Φ _ _⟩
    · rename_i k n h1
      have e := (hF.opd h1).int_inv
      simp only [aInt, Option.some.injEq] at h
      subst h
      exact ⟨_, by simp [execOp, e, Op.unary, Op.intBits], .int Φ _ _⟩
    · cases h
  case h_9 =>
    rename_i src dst' x
    split at h
    · rename_i d1 k q n h1 h2 h3
      cases h
      have e := (hF.opd h3).int_inv
      refine ⟨.int k (k.wrap n), ?_, .int Φ _ _⟩
      simp only [execOp, convert, Sem.run_bind, run_und ok h1, run_und ok h2, Result.andThen_ok, e]
      cases d1 <;> rfl
    · rename_i b h1 h2 h3
      cases h
      have e := (hF.opd h3).str_inv
      refine ⟨.string b, ?_, .str Φ _⟩
      simp only [execOp, convert, Sem.run_bind, run_und ok h1, run_und ok h2, Result.andThen_ok, e]
      rfl
    · rename_i e1 b n c h1 h2 h3
      split at h
      · rename_i hu
        split at h
        · cases h
          obtain ⟨rfl, rfl, e⟩ := (hF.opd h3).nilslice_inv
          refine ⟨mkStr [], ?_, .flat _ rfl⟩
          simp only [execOp, convert, Sem.run_bind, run_und ok h1, run_und ok h2, Result.andThen_ok, e, run_und ok hu]
          rfl
        · rename_i b'
          split at h
          · rename_i cs hl
            split at h
            · rename_i hall
              cases h
              obtain ⟨hsp, p, cap, hp, e, _⟩ := (hF.opd h3).slice_inv
              have r := bytesToString_ok (C := C) hR (cap := cap) hl hp hall
              refine ⟨_, ?_, .flat _ rfl⟩
              simp only [execOp, convert, Sem.run_bind, run_und ok h1, run_und ok h2, Result.andThen_ok, e, run_und ok hu]
              rw [r]; rfl
            · cases h
          · cases h
      · cases h
    · cases h
  case h_10 =>
    rename_i t x
    split at h
    · cases h
    · rename_i d v0 hne h1 h2
      cases h
      refine ⟨.iface t (a.eval x), ?_, .iface t _ _ (hF.opd h2)⟩
      simp only [execOp, Instr.makeInterface, Sem.run_bind, run_und ok h1, Result.andThen_ok]
      cases d <;> first | rfl | exact (hne _ rfl).elim
    · cases h
  case h_11 =>
    rename_i fn x y
    split at h
    · rename_i f xs ys h1 h2
      cases h
      have r1 := hF.opds h1
      have r2 := hF.opds h2
      refine ⟨.func (.func f) ⟨x.toList.map a.eval⟩ ⟨y.toList.map a.eval⟩, ?_, .func f xs ys _ _ r1.1 r1.2 r2.1 r2.2⟩
      have e : ∀ z : Array Operand, z.map a.eval = (⟨z.toList.map a.eval⟩ : Array Value) := fun z => by apply Array.ext'; simp
      simp [execOp, Instr.makeFunc, e]
    · cases h
  case h_12 =>
    rename_i t x lo hi mx
    split at h
    · rename_i x1 lo1 hi1 mx1 h1 h2 h3 h4
      obtain ⟨v', r1, r2⟩ := aSlice_ok ok hR h (hF.opd h1) (hF.opO h2) (hF.opO h3) (hF.opO h4)
      exact ⟨v', by simp only [execOp, Sem.run_bind]; rw [r1]; rfl, r2⟩
    · cases h
  case h_13 =>
    rename_i t x f
    split at h
    · rename_i fs b h1 h2
      split at h
      · rename_i fd hf
        split at h
        · rename_i n hn
          cases h
          obtain ⟨hsp, p, hp, e⟩ := (hF.opd h2).ptr_inv
          refine ⟨.pointer (some ⟨p.b, b.off + fd.offset, none⟩), ?_, .ptr b.block (b.off + fd.offset) p hp⟩
          have hf' : fs[f]? = some fd := by simpa using hf
          simp [execOp, Instr.fieldAt, run_und ok h1, hf', Instr.sureAddr, e, fieldPlace, run_siz ok hn, add_off]
        · cases h
      · cases h
    · cases h
  case h_14 =>
    rename_i t x f
    split at h
    · rename_i fs cs h1 h2
      split at h
      · rename_i fd hf
        obtain ⟨us, e, hus⟩ := (hF.opd h2).agg_inv
        obtain ⟨v', r1, r2⟩ := part_ok ok h hus w
        have hf' : fs[f]? = some fd := by simpa using hf
        exact ⟨v', by simp [execOp, Instr.field, run_und ok h1, hf', asAgg, e, r1], r2⟩
      · cases h
    · cases h
  case h_15 =>
    rename_i t x i
    split at h
    · rename_i n e1 b q k h1 h2 h3
      split at h
      · rename_i z hz
        split at h
        · rename_i hk
          simp only [Bool.and_eq_true, decide_eq_true_eq] at hk
          cases h
          obtain ⟨hsp, p, hp, e⟩ := (hF.opd h2).ptr_inv
          have e3 := (hF.opd h3).int_inv
          refine ⟨.pointer (some ⟨p.b, b.off + k.toNat * z, none⟩), ?_, .ptr b.block _ p hp⟩
          simp [execOp, Instr.indexAt, run_und ok h1, Instr.sureAddr, e, e3, asIntOf, hk.1, hk.2, run_siz ok hz, add_off]
        · cases h
      · cases h
    · rename_i e1 b n c q k h1 h2 h3
      split at h
      · rename_i z hz
        split at h
        · rename_i hk
          simp only [Bool.and_eq_true, decide_eq_true_eq] at hk
          cases h
          obtain ⟨hsp, p, cap, hp, e, _⟩ := (hF.opd h2).slice_inv
          have e3 := (hF.opd h3).int_inv
          refine ⟨.pointer (some ⟨p.b, b.off + k.toNat * z, none⟩), ?_, .ptr b.block _ p hp⟩
          simp [execOp, Instr.indexAt, run_und ok h1, e, e3, asIntOf, hk.1, hk.2, run_siz ok hz, add_off]
        · cases h
      · cases h
    · cases h
  case h_16 =>
    rename_i t x i
    split at h
    · rename_i n e1 cs q k h1 h2 h3
      split at h
      · rename_i z hz
        split at h
        · rename_i hk
          simp only [Bool.and_eq_true, decide_eq_true_eq] at hk
          obtain ⟨us, e, hus⟩ := (hF.opd h2).agg_inv
          have e3 := (hF.opd h3).int_inv
          obtain ⟨v', r1, r2⟩ := part_ok ok h hus w
          exact ⟨v', by simp [execOp, Instr.index, run_und ok h1, e, e3, asIntOf, hk.1, hk.2, run_siz ok hz, r1], r2⟩
        · cases h
      · cases h
    · rename_i b q k h1 h2 h3
      split at h
      · rename_i hk
        split at h
        · rename_i c hc
          cases h
          have e := (hF.opd h2).str_inv
          have e3 := (hF.opd h3).int_inv
          refine ⟨.int .u8 c.toNat, ?_, .int Φ _ _⟩
          rw [← ba_get] at hc
          simp [execOp, Instr.index, run_und ok h1, e, e3, asIntOf, hk, hc]
        · cases h
      · cases h
    · cases h
  case h_17 =>
    rename_i t m k okb
    split at h
    · rename_i m1 k1 h1 h2
      obtain ⟨v', r1, r2⟩ := aLookup_ok ok hR h (hF.opd h1) (hF.opd h2)
      exact ⟨v', by simp only [execOp, Sem.run_bind]; rw [r1]; rfl, r2⟩
    · cases h
  case h_18 =>
    rename_i x xt t okb
    split at h
    · cases h
    · rename_i d u v0 hne h1 h2
      obtain ⟨v', e, hv'⟩ := (hF.opd h2).iface_inv
      split at h
      · rename_i hut
        have hut : u = t := Nat.eq_of_beq_eq_true hut
        subst hut
        cases h
        refine ⟨if okb then .tuple #[v', .bool true] else v', ?_, ?_⟩
        · simp only [execOp, Instr.typeAssert, Sem.run_bind, run_und ok h1, Result.andThen_ok, e]
          cases d <;> first | exact (hne _ rfl).elim | (simp; done) | rfl
        · cases okb with
          | true => exact .tuple [v0, .bool true] [v', .bool true] rfl ((VRs.cons hv' (VRs.cons (.bool Φ true) (VRs.nil Φ))).2)
          | false => exact hv'
      · rename_i hut
        split at h
        · rename_i hok
          subst hok
          split at h
          · rename_i z hz
            cases h
            have hg : VR Φ z z := by
              obtain ⟨_, _, _, hg⟩ := zero_of ok hz
              exact .ground hg
            have hne' : u ≠ t := fun e => hut (by rw [e]; exact Nat.beq_refl t)
            refine ⟨.tuple #[z, .bool false], ?_, .tuple [z, .bool false] [z, .bool false] rfl ((VRs.cons hg (VRs.cons (.bool Φ false) (VRs.nil Φ))).2)⟩
            simp only [execOp, Instr.typeAssert, Sem.run_bind, run_und ok h1, Result.andThen_ok, e]
            cases d <;> first | exact (hne _ rfl).elim | (simp [hne', run_zero ok hz]; done)
          · cases h
        · cases h
    · cases h
  case h_19 =>
    rename_i x i
    split at h
    · rename_i vs h1
      obtain ⟨us, e, hus⟩ := (hF.opd h1).tuple_inv
      obtain ⟨u, hu, hr⟩ := hus.get h
      exact ⟨u, by simp [execOp, Instr.extract, e, hu], hr⟩
    · cases h
  case h_20 =>
    rename_i b args ats
    split at h
    · rename_i vs h1
      obtain ⟨v', r1, r2⟩ := builtinQ_ok ok hR h (hF.opds h1) ty (args.map fun | .const _ => true | _ => false)
      refine ⟨v', ?_, r2⟩
      have e : args.map a.eval = (⟨args.toList.map a.eval⟩ : Array Value) := by apply Array.ext'; simp
      simp only [execOp, resolve, Sem.run_bind, Sem.run_pure, Result.andThen_ok, invoke, e]
      exact r1
    · cases h
  case h_21 => cases h

include ok in
theorem quiet_ok (hR : Rel C Φ s w) {fr : Fr} {a : Act} (hF : FR ds Φ fr a) {op : Op} {v : Value} (h : aQuiet C.E fr s op = some v) (o : Oper) (ho : o.op = op) :
    ∃ v', (execOp a.eval o).run C.P w = .ok (.value v') w ∧ VR Φ v v' := by
  unfold aQuiet at h
  split at h
  · rename_i u hu
    cases h
    exact quiet0_ok ok hR hF hu o ho
  · split at h
    · rename_i vs hvs
      exact ok.hook op vs v h Φ s a.eval w o hR ho (hF.opds hvs)
    · cases h
end
end Go.Abs
