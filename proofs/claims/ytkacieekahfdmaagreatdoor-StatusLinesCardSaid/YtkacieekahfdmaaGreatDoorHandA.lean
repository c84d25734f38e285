import Derived.Test.YtkacieekahfdmaaGreatDoorProg
import Derived.WalkKit
import Derived.WalkSpells
import Derived.BigQuiet
import Derived.Deep.QuietTactic
import Derived.Test.YtkacieekahfdmaaGreatDoorAbsE
import Derived.Test.YtkacieekahfdmaaGreatDoorShelfA
import Derived.RegionTactic
import Derived.Lib.Hide
import Derived.ChangeAlike
import Derived.Lib.UnsafeStr
set_option linter.unusedSimpArgs false
set_option linter.unusedVariables false
set_option linter.unusedSectionVars false
namespace Go.Proofs.YtkacieekahfdmaaGreatDoor
open Go.RowKit Go.Abs
set_option maxHeartbeats 400000 in
theorem on_walk (g : Nat) (c : Nat) (s : ByteArray) (w : World) (hc : c < 4294967296) (htab : ∀ j, j < 256 → w.cell? ⟨g, j, none⟩ = some (.int .u32 (crcBits 8 j : Nat))) (hs : s.size ≤ 1000000000) :
    Calls Tryz.prog 269 #[.pointer (some ⟨g, 0, none⟩), .int .u32 c, .string s] w fun e w' => e = .returned (.int .u32 (crcOn c s.data.toList : Nat)) ∧ w'.Alike w ∧ w'.tape = w.tape := by
  have hnot : bits BinOp.xor IntKind.u32 IntKind.u32.max (c : Int) = ((c ^^^ 4294967295 : Nat) : Int) := by
    have := bits_xor_u32 (x := 4294967295) (y := c) (by omega) hc
    rw [Nat.xor_comm] at this
    exact this
  go_enter Tryz.func269, Tryz.ntmps269
  go_wp2
  go_loopw [7, 15] (fun r i wr => ∃ k : Nat, k ≤ s.size ∧ i = .int .i64 k ∧ r = .int .u32 (crcRun (s.data.toList.take k) (Nat.xor c 4294967295) : Nat) ∧ wr.Alike w ∧ wr.tape = w.tape) (fun _ i _ => s.size - (intOf i).toNat)
  case atStart => exact ⟨0, Nat.zero_le _, rfl, rfl, ⟨rfl, rfl, rfl⟩, rfl⟩
  case round =>
    obtain ⟨k, hk, rfl, rfl, ha⟩ := hrel
    have hr32 : crcRun (s.data.toList.take k) (Nat.xor c 4294967295) < 4294967296 := crcRun_lt _ _ (Nat.xor_lt_two_pow (n := 32) hc (by omega))
    generalize hr : crcRun (s.data.toList.take k) (Nat.xor c 4294967295) = r at hr32 ⊢
    clear hnot
    go_wp2
    · have hk' : k < s.size := by assumption
      have hb : (s[k]).toNat < 256 := (s[k]).toNat_lt
      obtain ⟨q, hq⟩ : ∃ q, (r % 256) ^^^ s[k].toNat = q := ⟨_, rfl⟩
      have hq2 : q < 256 := by rw [← hq]; exact Nat.xor_lt_two_pow (n := 8) (by omega) hb
      have hx : bits BinOp.xor IntKind.u8 (IntKind.u8.wrap (r : Int)) ((s[k].toNat : Nat) : Int) = ((q : Nat) : Int) := by
        rw [← hq, ← bits_xor_u8 (by omega) hb]
        congr 1
      have hq3 : (q : Int) < 256 := by omega
      have hcell : wr.cell? ⟨g, q, none⟩ = some (.int .u32 (crcBits 8 q : Nat)) := by
        rw [← htab q hq2]
        simp [World.cell?, ha.1.1]
      have hlast : bits BinOp.xor IntKind.u32 ((r : Int) / 256) ((crcBits 8 q : Nat) : Int) = ((crcStep r s[k].toNat : Nat) : Int) := by
        have : ((r : Int) / 256) = ((r / 256 : Nat) : Int) := by omega
        rw [this, bits_xor_u32 (by omega) (crcBits_lt 8 q (by omega))]
        subst hq
        rfl
      have hnext : crcRun (s.data.toList.take (k + 1)) (Nat.xor c 4294967295) = crcStep r s[k].toNat := by
        have hl : k < s.data.toList.length := by simpa using hk'
        rw [List.take_succ_eq_append_getElem hl, crcRun_snoc, hr]
        rfl
      clear htab
      go_quiet (fail)
      go_wp2
      refine ⟨⟨k + 1, by omega, by simp, by rw [hnext], ha⟩, by simp [intOf]; omega⟩
    · have hk' : k = s.size := by omega
      subst hk'
      have hfin : bits BinOp.xor IntKind.u32 IntKind.u32.max (r : Int) = ((crcOn c s.data.toList : Nat) : Int) := by
        have := bits_xor_u32 (x := 4294967295) (y := r) (by omega) hr32
        rw [Nat.xor_comm] at this
        unfold crcOn
        rw [List.take_of_length_le (by simp)] at hr
        rw [hr]
        exact this
      go_wp2
      go_ret
      refine ⟨?_, ha⟩
      simp [hfin]
      done
end Go.Proofs.YtkacieekahfdmaaGreatDoor
set_option linter.unusedSectionVars false
namespace Go.Abs
open Go Go.RowKit
variable [Toks]
section
variable {C : Ctx} {Φ : Ph} {s : AS} {w w' : World}
theorem Rel.belowOf (h : Rel C Φ s w) (hb : Below w.heap.size w w') : Rel C Φ s w' ∧ Stp Φ s w Φ s w' := by
  refine ⟨⟨h.below.trans (hb.mono h.base), h.fresh, fun i p hp => ?_, h.inj, fun i o hi => ?_, h.room⟩, ⟨Ext.refl _, Nat.le_refl _, fun _ _ a _ => a, hb.size, fun k hk _ => hb.block k hk, fun i o p a b => .inr ⟨i, o, p, a, b, rfl⟩, fun _ o _ a => ⟨o, a⟩⟩⟩
  · have := h.lt i p hp; have := hb.size; omega
  · obtain ⟨p, c, h1, h2, h3⟩ := h.obj i o hi
    exact ⟨p, c, h1, by rw [hb.block _ (h.lt i p h1).2]; exact h2, h3⟩
theorem calls_pure {f : FuncId} {us : Array Value} {v : Value} (h : Rel C Φ s w) (hv : VR Φ v v) (hc : Calls C.P f us w fun e w' => e = .returned v ∧ Below w.heap.size w w') :
    Calls C.P f us w (fun e w' => ∃ u Φ', e = .returned u ∧ VR Φ' v u ∧ Rel C Φ' s w' ∧ Stp Φ s w Φ' s w') :=
  hc.mono fun e w' ⟨he, hb⟩ => by
    obtain ⟨h1, h2⟩ := h.belowOf hb
    exact ⟨v, Φ, he, hv, h1, h2⟩
theorem below_of_alike (h : w'.Alike w) (ht : w'.tape = w.tape) : Below w.heap.size w w' := ⟨h.2.1, ht, h.2.2, by rw [h.1]; exact Nat.le_refl _, fun k _ => by rw [h.1]⟩
end
theorem repL_eq (l : List UInt8) : ∀ n, repL n l = Lib.repeatL l n := by
  intro n
  induction n with
  | zero => rfl
  | succ n ih => simp only [repL, ih]; rfl
end Go.Abs
namespace Go.Proofs.YtkacieekahfdmaaGreatDoor
open Go.RowKit Go.Abs
variable [Toks]
variable {C : Ctx} (hP : C.P = Tryz.prog)
include hP
theorem hRepeat_ok : HdOK C 82 hRepeat := by
  intro Φ s w args us v s' hR hA h
  unfold hRepeat at h
  split at h
  · rename_i s0 b n
    obtain ⟨u1, us1, rfl, h1, hA⟩ := hA.head
    obtain ⟨u2, us2, rfl, h2, hA⟩ := hA.head
    cases hA.nil_inv
    cases h1.str_inv
    have := h2.int_inv
    subst this
    split at h
    · rename_i hl
      simp only [Bool.and_eq_true, decide_eq_true_eq] at hl
      obtain ⟨hl, hn⟩ := hl
      simp only [Option.some.injEq, Prod.mk.injEq] at h
      obtain ⟨rfl, rfl⟩ := h
      refine ⟨⟨Tryz.f82, by rw [hP]; exact Tryz.func82, by kernel_rfl⟩, ?_⟩
      have hsz : b.size * n ≤ 100000000 := by
        have : b.data.toList.length = b.size := by rw [ba_size]
        rw [← this]; exact hl
      refine calls_pure hR (.flat _ rfl) ?_
      rw [hP]
      have := Tryz.strings_Repeat b n w (by omega) (by omega)
      exact this.mono fun e w' ⟨he, hb⟩ => ⟨by rw [he, repL_eq]; rfl, hb⟩
    · cases h
  · cases h

omit hP in
theorem crcIs_get : ∀ {l : List Value} {i : Nat}, crcIs l i = true → i + l.length = 256 ∧ ∀ (j : Nat) (v : Value), l[j]? = some v → v = Value.int .u32 ((crcBits 8 (i + j) : Nat) : Int) := by
  intro l
  induction l with
  | nil => intro i h; simp only [crcIs] at h; exact ⟨Nat.eq_of_beq_eq_true h, fun j v h => by simp at h⟩
  | cons x l ih =>
    intro i h
    cases x <;> first
      | (simp [crcIs] at h; done)
      | skip
    rename_i kk y
    cases kk <;> cases y <;> first
      | (simp [crcIs] at h; done)
      | skip
    · rename_i y
      simp only [crcIs, Bool.and_eq_true] at h
      obtain ⟨h1, h2⟩ := ih h.2
      refine ⟨by simp; omega, fun k v hv => ?_⟩
      cases k with
      | zero =>
        simp at hv
        subst hv
        rw [Nat.eq_of_beq_eq_true h.1]; rfl
      | succ k =>
        have := h2 k v (by simpa using hv)
        rw [this]
        congr 3
        omega

theorem hOn_ok (tab : TypeId) : HdOK C 269 (hOn tab) := by
  intro Φ s w args us v s' hR hA h
  unfold hOn at h
  split at h
  · rename_i s0 a c b
    obtain ⟨u1, us1, rfl, h1, hA⟩ := hA.head
    obtain ⟨u2, us2, rfl, h2, hA⟩ := hA.head
    obtain ⟨u3, us3, rfl, h3, hA⟩ := hA.head
    cases hA.nil_inv
    cases h3.str_inv
    have := h2.int_inv
    subst this
    obtain ⟨hsp, p, hp, rfl⟩ := h1.ptr_inv
    split at h
    · rename_i e vs ho
      split at h
      · rename_i hc
        simp only [Bool.and_eq_true] at hc
        obtain ⟨⟨⟨c1, c2⟩, c3⟩, c4⟩ := hc
        simp only [Option.some.injEq, Prod.mk.injEq] at h
        obtain ⟨rfl, rfl⟩ := h
        refine ⟨⟨Tryz.f269, by rw [hP]; exact Tryz.func269, by kernel_rfl⟩, ?_⟩
        obtain ⟨q, o, hq, hcell, hor⟩ := hR.obj _ _ ho
        rw [hp] at hq; cases hq
        cases o <;> simp only [OR] at hor
        rename_i cs ce fr
        obtain ⟨o1, o2, o3, o4, o5, o6, o7⟩ := hor
        obtain ⟨k1, k2⟩ := crcIs_get c4
        refine calls_pure hR (.flat _ rfl) ?_
        rw [hP, Nat.eq_of_beq_eq_true c1]
        have hs : b.size ≤ 1000000000 := by
          have := Nat.le_of_ble_eq_true c3
          have e : b.data.toList.length = b.size := by rw [ba_size]
          omega
        refine (on_walk p.b c b w (blt_lt c2) (fun j hj => ?_) hs).mono fun e w' ⟨he, ha, ht⟩ => ⟨he, below_of_alike ha ht⟩
        have hlt : j < vs.length := by omega
        obtain ⟨v', g1, g2⟩ := o6 j _ (List.getElem?_eq_getElem hlt)
        have hv := k2 j _ (List.getElem?_eq_getElem hlt)
        rw [hv] at g2
        have := g2.int_inv
        subst this
        simp only [World.cell?, hcell]
        rw [g1]
        simp
      · cases h
    · cases h
  · cases h
end Go.Proofs.YtkacieekahfdmaaGreatDoor
namespace Go.Proofs.YtkacieekahfdmaaGreatDoor
open Go.RowKit Go.Abs
set_option maxHeartbeats 400000 in
theorem tz_walk (w : World) (hg : w.cell? ⟨2, 63, none⟩ = some (.int .u8 6)) : Calls Tryz.prog 80 #[.int .u64 18446744073709551552] w fun e w' => e = .returned (.int .i64 6) ∧ w'.Alike w ∧ w'.tape = w.tape := by
  have n1 : IntKind.u64.wrap (-18446744073709551552) = 64 := by decide +kernel
  have n2 : bits BinOp.and IntKind.u64 18446744073709551552 64 = 64 := by decide +kernel
  have n3 : IntKind.u64.wrap (64 * 285870213051353865) = 18295693635286647360 := by decide +kernel
  have n4 : (18295693635286647360 : Int) / 288230376151711744 = 63 := by decide +kernel
  go_enter Tryz.func80, Tryz.ntmps80
  go_wp2
  go_ret
  exact ⟨rfl, ⟨rfl, rfl, rfl⟩, rfl⟩
end Go.Proofs.YtkacieekahfdmaaGreatDoor
namespace Go.Proofs.YtkacieekahfdmaaGreatDoor
open Go Go.RowKit Go.Abs
theorem bits_and1_u32 {x : Nat} : bits BinOp.and IntKind.u32 (x : Int) 1 = ((x % 2 : Nat) : Int) := by
  have e : (BitVec.ofInt 32 (x : Int) &&& BitVec.ofInt 32 (1 : Int)).toNat = x % 2 := by
    rw [BitVec.toNat_and, BitVec.toNat_ofInt, BitVec.toNat_ofInt]
    have : ((1 : Int) % ((2 ^ 32 : Nat) : Int)).toNat = 1 := by decide
    rw [this, Nat.and_one_is_mod]
    omega
  show IntKind.u32.wrap ((BitVec.ofInt 32 (x : Int) &&& BitVec.ofInt 32 1).toNat : Int) = _
  rw [e]
  simp [IntKind.wrap, IntKind.bits, IntKind.signed]
  omega

theorem crc_int {x : Nat} (hx : x < 4294967296) : bits BinOp.xor IntKind.u32 ((x : Int) / 2) (2197175160 * ((x : Int) % 2)) = ((Nat.xor (x / 2) (2197175160 * (x % 2)) : Nat) : Int) := by
  have := bits_xor_u32 (x := x / 2) (y := 2197175160 * (x % 2)) (by omega) (by omega)
  have e : (((2197175160 * (x % 2) : Nat)) : Int) = 2197175160 * ((x : Int) % 2) := by omega
  rw [e] at this
  exact this
def CrcAt (m x k : Nat) : Prop := crcBits (8 - m) x = crcBits 8 k
def TabTo (w wr : World) (k : Nat) : Prop := Below w.heap.size w wr ∧ ∃ c, wr.heap[w.heap.size]? = some (.cells c 252 (0, 0)) ∧ c.size = 256 ∧ ∀ j, j < k → c[j]? = some (.int .u32 (crcBits 8 j : Nat))
theorem crcAt_end {m x k : Nat} (hm : m ≤ 8) (h8 : ¬ m < 8) (h : CrcAt m x k) : x = crcBits 8 k := by
  obtain rfl : m = 8 := by omega
  exact h
theorem crcAt_step {m x k : Nat} (h8 : m < 8) (hx : x < 4294967296) (h : CrcAt m x k) : CrcAt (m + 1) (Nat.xor (x / 2) (2197175160 * (x % 2))) k := by
  unfold CrcAt at h ⊢
  rw [← h, show 8 - m = (8 - (m + 1)) + 1 by omega]
  rfl
theorem tabTo_next {w wr : World} {k : Nat} (h : TabTo w wr k) (hk : k < 256) : ∃ v, wr.cell? ⟨w.heap.size, k, none⟩ = some v ∧ wr.frozen? ⟨w.heap.size, k, none⟩ = false ∧
    TabTo w (wr.setCell ⟨w.heap.size, k, none⟩ (.int .u32 (crcBits 8 k : Nat))) (k + 1) := by
  obtain ⟨hb, c, hc, hs, hj⟩ := h
  have hlt : k < c.size := by omega
  refine ⟨c[k], by simp [World.cell?, hc, hlt], by simp [World.frozen?, hc], hb.setCell (Nat.le_refl _) _, c.setIfInBounds k (.int .u32 (crcBits 8 k : Nat)), ?_, by simpa using hs, fun j hjk => ?_⟩
  · simp [World.setCell, Array.getElem?_modify, hc]
  · rw [Array.getElem?_setIfInBounds]
    by_cases e : k = j
    · subst e; rw [if_pos rfl, if_pos hlt]
    · rw [if_neg e]; exact hj j (by omega)
def MadeTab (w w' : World) : Prop := TabTo w w' 256
theorem tabTo_start (w : World) : TabTo w (w.alloc (Obj.cells Tryz.zeroCells252 252)) 0 := by
  refine ⟨(Below.refl _ _).alloc (Nat.le_refl _) _, _, heap_alloc_new _ _, by kernel_rfl, fun j hj => by omega⟩
set_option maxRecDepth 100000 in
set_option maxHeartbeats 1000000 in
theorem make_walk (w : World) : Calls Tryz.prog 89 #[] w fun e w' => e = .returned (.pointer (some ⟨w.heap.size, 0, none⟩)) ∧ MadeTab w w' := by
  go_enter Tryz.func89, Tryz.ntmps89
  go_wp2
  go_loopw [6] (fun i wr => ∃ k : Nat, k ≤ 256 ∧ i = .int .i64 k ∧ TabTo w wr k) (fun i _ => 256 - (intOf i).toNat)
  case atStart => exact ⟨0, Nat.zero_le _, rfl, tabTo_start w⟩
  case round =>
    obtain ⟨k, hk, rfl, hT⟩ := hrel
    by_cases hlt : k < 256
    · go_wp2
      go_loop [3, 11] (fun r i => ∃ m x : Nat, m ≤ 8 ∧ i = .int .i64 m ∧ r = .int .u32 x ∧ x < 4294967296 ∧ CrcAt m x k) (fun _ i => 8 - (intOf i).toNat)
      case atStart => exact ⟨0, k, by omega, rfl, rfl, by omega, rfl⟩
      case round =>
        obtain ⟨m, x, hm, rfl, rfl, hx, hc⟩ := hrel
        by_cases hm8 : m < 8
        · have h1 := bits_and1_u32 (x := x)
          have hs := crcAt_step hm8 hx hc
          have HS := Lib.hid hs; clear hs hc hT
          go_wp2
          go_round
          case rel =>
            refine ⟨m + 1, Nat.xor (x / 2) (2197175160 * (x % 2)), by omega, by go_num, ?_, ?_, HS.out⟩
            · rw [crc_int hx]
            · exact Nat.xor_lt_two_pow (n := 32) (by omega) (by rcases (show x % 2 = 0 ∨ x % 2 = 1 by omega) with e | e <;> rw [e] <;> decide)
          case measure => simp [intOf]; omega
        · have hv := crcAt_end hm hm8 hc
          obtain ⟨v0, hc0, hf0, hn⟩ := tabTo_next hT hlt
          have HV := Lib.hid hv; have HN := Lib.hid hn; clear hv hc hT hn
          go_wp2
          go_roundw
          case rel =>
            refine ⟨k + 1, by omega, by go_num, ?_⟩
            rw [HV.out]; exact HN.out
          case measure => simp [intOf]; omega
    · go_wp2
      go_ret
      obtain rfl : k = 256 := by omega
      exact ⟨rfl, hT⟩
end Go.Proofs.YtkacieekahfdmaaGreatDoor
set_option linter.unusedSectionVars false
namespace Go.Abs
open Go Go.RowKit
variable [Toks]
theorem crcFrom_get : ∀ (n i k : Nat), k < n → (crcFrom n i)[k]? = some (.int .u32 ((crcBits 8 (i + k) : Nat) : Int)) := by
  intro n
  induction n with
  | zero => intro i k h; omega
  | succ n ih =>
    intro i k h
    cases k with
    | zero => rfl
    | succ k =>
      show (crcFrom n (i + 1))[k]? = _
      rw [ih (i + 1) k (by omega), show i + 1 + k = i + (k + 1) by omega]
theorem crcFrom_len : ∀ (n i : Nat), (crcFrom n i).length = n := by
  intro n
  induction n with
  | zero => intro i; rfl
  | succ n ih => intro i; show (crcFrom n (i + 1)).length + 1 = _; rw [ih]
theorem crcTab_len : crcTab.length = 256 := crcFrom_len 256 0
theorem crcTab_get {k : Nat} (h : k < 256) : crcTab[k]? = some (.int .u32 ((crcBits 8 k : Nat) : Int)) := by
  have := crcFrom_get 256 0 k h
  rw [Nat.zero_add] at this
  exact this
/-- a row of plain numbers, made by a call that leaves the rest alone -/
theorem made_row {C : Ctx} {Φ : Ph} {s s' : AS} {w : World} {f : FuncId} {us : Array Value} {vs : List Value} {e : TypeId} {i : Nat} (hR : Rel C Φ s w) (hnew : s.new (.cells e vs false 0 0) = some (i, s'))
    (hflat : ∀ (k : Nat) v, vs[k]? = some v → flat v = true)
    (hc : Calls C.P f us w fun en w' => en = .returned (.pointer (some ⟨w.heap.size, 0, none⟩)) ∧ Below w.heap.size w w' ∧ ∃ c, w'.heap[w.heap.size]? = some (.cells c e (0, 0)) ∧ c.size = vs.length ∧ ∀ (k : Nat) v, vs[k]? = some v → c[k]? = some v) :
    Calls C.P f us w (fun en w' => ∃ u Φ', en = .returned u ∧ VR Φ' (ptr i 0) u ∧ Rel C Φ' s' w' ∧ Stp Φ s w Φ' s' w') := by
  refine hc.mono fun en w' ⟨he, hb, c, h1, h2, h3⟩ => ?_
  obtain ⟨hRw, hS⟩ := hR.belowOf hb
  have hB := hR.base
  obtain ⟨Φ', e1, e2, e3, e4, e5, e6, e7⟩ := hRw.reuse hnew (p := ⟨w.heap.size, vs.length, sizeP C.P e⟩) h1 hB (fun Φ2 _ => ⟨rfl, h2, rfl, Nat.le_refl _, fun _ => rfl, fun k v hv => ⟨v, h3 k v hv, .flat v (hflat k v hv)⟩, fun k a b => by
    have a : 0 ≤ k := a
    have b : k < 0 := b
    omega⟩) (fun j o q hj hq => by have := (hR.lt j q hq).2; show q.b ≠ w.heap.size; omega)
  refine ⟨_, Φ', he, .ptr i 0 _ e2, e3, ⟨e1, e7, e4, hb.size, fun k hk _ => hb.block k hk, fun j o q hj hq => ?_, fun j o hlt hj => ⟨o, e6 j o hlt hj⟩⟩⟩
  rcases e5 j o q hj hq with rfl | ⟨o', a, b⟩
  · exact .inl (Nat.le_refl _)
  · exact .inr ⟨j, o', q, a, b, rfl⟩
end Go.Abs
namespace Go.Proofs.YtkacieekahfdmaaGreatDoor
open Go Go.RowKit Go.Abs
variable [Toks]
theorem hMake_ok {C : Ctx} (hP : C.P = Tryz.prog) : HdOK C 89 (hMake 252) := by
  intro Φ s w args us v s' hR hA h
  unfold hMake at h
  split at h
  · cases hA.nil_inv
    split at h
    · rename_i i s1 hnew
      simp only [Option.some.injEq, Prod.mk.injEq] at h
      obtain ⟨rfl, rfl⟩ := h
      refine ⟨⟨Tryz.f89, by rw [hP]; exact Tryz.func89, by kernel_rfl⟩, ?_⟩
      refine made_row hR hnew (fun k v hv => ?_) ?_
      · have hk : k < 256 := by have := (List.getElem?_eq_some_iff.1 hv).1; rw [crcTab_len] at this; exact this
        rw [crcTab_get hk] at hv
        cases hv; rfl
      · rw [hP]
        refine (make_walk w).mono fun en w' ⟨he, hb, c, h1, h2, h3⟩ => ⟨he, hb, c, h1, by rw [h2, crcTab_len], fun k v hv => ?_⟩
        have hk : k < 256 := by have := (List.getElem?_eq_some_iff.1 hv).1; rw [crcTab_len] at this; exact this
        rw [crcTab_get hk] at hv
        cases hv; exact h3 k hk
    · cases h
  · cases h
end Go.Proofs.YtkacieekahfdmaaGreatDoor
set_option linter.unusedSectionVars false
namespace Go.Proofs.YtkacieekahfdmaaGreatDoor
open Go Go.RowKit Go.Abs
variable [Toks]
set_option maxRecDepth 100000 in
set_option maxHeartbeats 400000 in
theorem bstr_walk (b : Nat) (w : World) (h : w.cell? ⟨b, 1, none⟩ = some (.slice none 0 0)) : Calls Tryz.prog 137 #[.pointer (some ⟨b, 0, none⟩)] w fun e w' => e = .returned (.string ⟨#[]⟩) ∧ w'.Alike w ∧ w'.tape = w.tape := by
  have hUS : ∀ W, (Builtin.unsafeString_ #[306, 3] 9 #[.pointer none, .int .i64 0]).run Tryz.prog W = .ok (.string .empty) W := fun W => Lib.run_unsafeString_none W _ _ _ none
  have hSD : (Builtin.unsafeSliceData_ #[80] 306 #[.slice none 0 0]).run Tryz.prog w.drew = .ok (.pointer none) w.drew := rfl
  go_enter Tryz.func137, Tryz.ntmps137
  go_wp2
  go_region
  all_goals (go_wp2; go_ret; exact ⟨rfl, ⟨rfl, rfl, rfl⟩, rfl⟩)
/-- (*strings.Builder).String at a nil buffer -/
noncomputable def hBStr : Hd
  | [.pointer (some a)], s => if Nat.beq a.off 0 then (match loadC s a.block 1 1 with
    | some [.slice none 0 0] => some (mkStr [], s)
    | _ => none) else none
  | _, _ => none
/-- math/bits.TrailingZeros at the one value -/
noncomputable def hTzOne : Hd
  | [.int .u64 (.ofNat n)], s => if Nat.beq n 18446744073709551552 then some (.int .i64 6, s) else none
  | _, _ => none
theorem hBStr_ok {C : Ctx} (hP : C.P = Tryz.prog) : HdOK C 137 hBStr := by
  intro Φ s w args us v s' hR hA h
  unfold hBStr at h
  split at h
  · rename_i s0 a
    obtain ⟨u1, us1, rfl, h1, hA⟩ := hA.head
    cases hA.nil_inv
    split at h
    · rename_i hoff
      split at h
      · rename_i hl
        simp only [Option.some.injEq, Prod.mk.injEq] at h
        obtain ⟨rfl, rfl⟩ := h
        refine ⟨⟨Tryz.f137, by rw [hP]; exact Tryz.func137, by kernel_rfl⟩, ?_⟩
        obtain ⟨hsp, p, hp, rfl⟩ := h1.ptr_inv
        rw [Nat.eq_of_beq_eq_true hoff]
        have hc : w.cell? ⟨p.b, 1, none⟩ = some (.slice none 0 0) := by
          obtain ⟨us, h3, _, h4, _⟩ := loadC_ok hR hl hp
          obtain ⟨u, us', rfl, h5, h6⟩ := h3.head
          have e := h5.nilslice_inv.2.2
          subst e
          exact h4 0 _ rfl
        refine calls_pure hR (.flat _ rfl) ?_
        rw [hP]
        exact (bstr_walk p.b w hc).mono fun e w' ⟨he, ha, ht⟩ => ⟨he, below_of_alike ha ht⟩
      · cases h
    · cases h
  · cases h
theorem hTzOne_ok {C : Ctx} (hP : C.P = Tryz.prog) (hB : 2 < C.B) (hg : C.w0.cell? ⟨2, 63, none⟩ = some (.int .u8 6)) : HdOK C 80 hTzOne := by
  intro Φ s w args us v s' hR hA h
  unfold hTzOne at h
  split at h
  · rename_i s0 n
    obtain ⟨u1, us1, rfl, h1, hA⟩ := hA.head
    cases hA.nil_inv
    split at h
    · rename_i hn
      simp only [Option.some.injEq, Prod.mk.injEq] at h
      obtain ⟨rfl, rfl⟩ := h
      refine ⟨⟨Tryz.f80, by rw [hP]; exact Tryz.func80, by kernel_rfl⟩, ?_⟩
      have := h1.int_inv
      subst this
      rw [Nat.eq_of_beq_eq_true hn]
      refine calls_pure hR (.flat _ rfl) ?_
      rw [hP]
      have hc : w.cell? ⟨2, 63, none⟩ = some (.int .u8 6) := by
        rw [hR.below.cell (p := ⟨2, 63, none⟩) hB]; exact hg
      exact (tz_walk w hc).mono fun e w' ⟨he, ha, ht⟩ => ⟨he, below_of_alike ha ht⟩
    · cases h
  · cases h
end Go.Proofs.YtkacieekahfdmaaGreatDoor
