import Derived.Test.YtkacieekahfdmaaGreatDoorOutA
import Derived.Test.YtkacieekahfdmaaGreatDoorCards
import Derived.Test.YtkacieekahfdmaaGreatDoorTie
import Derived.WalkKit
import Derived.ProofKit
import Derived.OpenShut
import Derived.ShutString
import Derived.ChangeOld
import Derived.Below
import Derived.LaidMore
import Derived.Stop.Joined
import Derived.SevenTiedAt
import Derived.WideKeyArr2
import Derived.Deep.Slices
import Derived.Lib.LaidTab
import Derived.Stop.LaidErr
set_option linter.unusedSimpArgs false
set_option linter.unusedVariables false
set_option linter.unusedSectionVars false
set_option linter.unusedSectionVars false
namespace Go.Proofs.YtkacieekahfdmaaGreatDoor
open Go Go.RowKit Go.Abs
/-! the law's own numbers -/
def lawB (x : Nat → Int) (i : Nat) : Bool := if i = 2 then decide (0 < x 2) else if i = 3 then decide (0 < x 3) else if i = 12 then !decide (0 < x 2) else if i = 13 then !decide (0 < x 3) else false
def lawY (x : Nat → Int) (t L : Int) (bad : Nat → Int × Int) (i : Nat) : Int :=
  if 100 ≤ i then (if i % 2 = 0 then (bad ((i - 100) / 2)).1 else (bad ((i - 100) / 2)).2)
  else if 50 ≤ i then (if lawB x (i - 50) then 1 else 0)
  else if i = 42 then t else if i = 41 then t / 10 else if i = 40 then L
  else if 22 ≤ i ∧ i ≤ 30 then IntKind.i64.wrap (x (i - 22) + 1)
  else if 2 ≤ i ∧ i ≤ 10 then x (i - 2)
  else if i = 1 then max 0 (x 0) + 1 else if i = 0 then max 0 (x 0) else 0
def lawVal (x : Nat → Int) (t L : Int) (bad : Nat → Int × Int) (a0 : Option Addr) (n0 c0 : Nat) (a1 : Option Addr) (n1 c1 : Nat) : Val :=
  { Y := lawY x t L bad, B := lawB x, S := fun i => if i = 1 then .slice a1 n1 c1 else .slice a0 n0 c0, A := addrOf (.slice a1 n1 c1), hS := fun i => by by_cases h : i = 1 <;> simp [h] }
theorem rng_wrap (y : Int) : Rng (IntKind.i64.wrap y) := by
  unfold Rng; rw [IntKind.wrap_i64]; omega
theorem rng0 : Rng 0 := by unfold Rng; omega
theorem lawY_rng {x : Nat → Int} {t L : Int} {bad : Nat → Int × Int} (hx : ∀ i, Rng (x i)) (ht : 0 ≤ t ∧ t ≤ 255) (hL : Rng L) (hb : ∀ k, Rng (bad k).1 ∧ Rng (bad k).2) (i : Nat) (hi : i ≠ 1) : Rng (lawY x t L bad i) := by
  have hm : Rng (max 0 (x 0)) := by have := hx 0; unfold Rng at this ⊢; omega
  unfold lawY
  exact ite_rng (fun _ => ite_rng (fun _ => (hb _).1) (fun _ => (hb _).2)) (fun _ => ite_rng (fun _ => by split <;> (unfold Rng; omega)) (fun _ => ite_rng (fun _ => by unfold Rng; omega) (fun _ => ite_rng (fun _ => by unfold Rng; omega)
    (fun _ => ite_rng (fun _ => hL) (fun _ => ite_rng (fun _ => rng_wrap _) (fun _ => ite_rng (fun _ => hx _) (fun _ => ite_rng (fun h => absurd h hi) (fun _ => ite_rng (fun _ => hm) (fun _ => rng0)))))))))
theorem lawY_gen {x : Nat → Int} {t L : Int} {bad : Nat → Int × Int} (hx : ∀ i, Rng (x i)) (i : Nat) (hi : i < 2) : 0 ≤ lawY x t L bad i ∧ lawY x t L bad i < 18446744073709551616 := by
  have := hx 0
  unfold Rng at this
  match i, hi with
  | 0, _ => show 0 ≤ max 0 (x 0) ∧ max 0 (x 0) < _; omega
  | 1, _ => show 0 ≤ max 0 (x 0) + 1 ∧ max 0 (x 0) + 1 < _; omega
/-- a slice of pairs that came in -/
def PairsAt (w : World) (a : Option Addr) (L c : Nat) (bad : Nat → Int × Int) : Prop := (a = none ∧ L = 0 ∧ c = 0) ∨
  ∃ y, a = some y ∧ L ≤ c ∧ c ≤ maxLen ∧ ∀ k, k < L → ∃ b off, y = ⟨b, off, none⟩ ∧ b < w.heap.size ∧ w.cell? ⟨b, off + k * 2, none⟩ = some (.int .i64 (bad k).1) ∧ w.cell? ⟨b, off + k * 2 + 1, none⟩ = some (.int .i64 (bad k).2)
theorem cut_any (a : Option Addr) (L c n : Nat) (hn : n ≤ L) (hc : L ≤ c) (w : World) : (Instr.sliceAt 23 (.slice a L c) none (some (.int .i64 (n : Int))) none).run Tryz.prog w = .ok (sliced a 0 n c 2) w := by
  have ht : Tryz.prog.underlying 23 = some (.slice (Tryz.prog.elem 23)) := by simp [Program.elem, Tryz.underlying23]
  have he : Tryz.prog.elem 23 = 25 := by simp [Program.elem, Tryz.underlying23]
  rw [run_sliceAt_slice w 23 _ _ _ _ ht, run_slice_h w 23 a L c ht .i64 (n : Int) (by omega) (by omega), he, siz25]
  simp
theorem sliced_zero (a : Option Addr) (n c : Nat) : ∃ c', sliced a 0 n c 2 = .slice a n c' := by
  unfold sliced
  cases a with
  | none => exact ⟨c, by simp⟩
  | some y =>
    have e0 : y.add 0 = y := by unfold Addr.add; rfl
    simp [e0]
theorem law_wf {x : Nat → Int} {t : Int} {bad : Nat → Int × Int} {a : Option Addr} {L c : Nat} {w : World} (hx : ∀ i, Rng (x i)) (ht : 0 ≤ t ∧ t ≤ 255) (hb : ∀ k, Rng (bad k).1 ∧ Rng (bad k).2) (hp : PairsAt w a L c bad) (hL : L ≤ maxLen) :
    ∃ c1, ∀ r b : Nat, (r < 10 → t % 10 = (r : Int)) → (r = 5 ∨ r = 6 → t / 10 % 2 = (b : Int)) → WfX (lawVal x t L bad a L c a (min L 10) c1) ⟨min L 10, decide (0 < x 4), r, b⟩ w := by
  have hLc : L ≤ c := by
    rcases hp with ⟨rfl, rfl, rfl⟩ | ⟨y, rfl, h1, _⟩
    · exact Nat.le_refl _
    · exact h1
  obtain ⟨c1, hc1⟩ := sliced_zero a (min L 10) c
  have hLr : Rng (L : Int) := by unfold maxLen at hL; unfold Rng; omega
  have hr : WfR (lawVal x t L bad a L c a (min L 10) c1) := by
    refine ⟨fun i hi => lawY_rng hx ht hLr hb i hi, fun i hi => lawY_gen hx i hi, fun i hi => ?_⟩
    show lawY x t L bad (50 + i) = if lawB x i then 1 else 0
    unfold lawY
    rw [if_neg (by omega), if_pos (by omega), show 50 + i - 50 = i by omega]
  have hlen : ∀ i, (Lib.itoa (lawY x t L bad i)).length ≤ 21 := by
    intro i
    by_cases h : i = 1
    · subst h; exact itoa_len _ (.inr (lawY_gen hx 1 (by omega)))
    · exact itoa_len _ (.inl (lawY_rng hx ht hLr hb i h))
  refine ⟨c1, fun r b hr1 hb1 => ⟨⟨hlen, ⟨a, c1, rfl⟩, fun k hk => ?_⟩, hr, ?_, ?_, ?_, ?_, ?_, ?_, ?_, ?_, ?_, ?_, ?_, ⟨a, L, c, rfl, ?_⟩, ?_, ?_⟩⟩
  · rcases hp with ⟨rfl, rfl, rfl⟩ | ⟨y, rfl, _, _, h1⟩
    · simp at hk
    · have hk : k < min L 10 := hk
      obtain ⟨b, off, rfl, h2, h3, h4⟩ := h1 k (by omega)
      refine ⟨b, off, c1, rfl, rfl, h2, ?_, ?_⟩
      · show w.cell? _ = some (.int .i64 (lawY x t L bad (100 + 2 * k)))
        unfold lawY
        rw [if_pos (by omega), if_pos (by omega), show (100 + 2 * k - 100) / 2 = k by omega]; exact h3
      · show w.cell? _ = some (.int .i64 (lawY x t L bad (101 + 2 * k)))
        unfold lawY
        rw [if_pos (by omega), if_neg (by omega), show (101 + 2 * k - 100) / 2 = k by omega]; exact h4
  · intro i h2 h10
    show IntKind.i64.wrap (lawY x t L bad i + 1) = lawY x t L bad (i + 20)
    unfold lawY
    rw [if_neg (by omega), if_neg (by omega), if_neg (by omega), if_neg (by omega), if_neg (by omega), if_neg (by omega), if_pos (by omega), if_neg (by omega), if_neg (by omega), if_neg (by omega), if_neg (by omega), if_neg (by omega), if_pos (by omega)]
    rw [show i + 20 - 22 = i - 2 by omega]
  · rfl
  · rfl
  · rfl
  · rfl
  · intro i hi
    rcases hi with rfl | rfl <;> rfl
  · rfl
  · exact ht
  · exact hr1
  · rfl
  · exact hb1
  · rfl
  · intro w'
    show (Instr.sliceAt 23 (.slice a L c) none (some (.int .i64 ((min L 10 : Nat) : Int))) none).run Tryz.prog w' = .ok (.slice a (min L 10) c1) w'
    rw [cut_any a L c (min L 10) (by omega) hLc w', hc1]
  · show ((min L 10 : Nat) : Int) = min (L : Int) 10
    omega
/-- the law's call -/
theorem law_calls (hchk : ∀ n d, n ≤ 10 → chkO n d = true) {x : Nat → Int} {t : Int} {bad : Nat → Int × Int} {a : Option Addr} {L c : Nat} {w : World} (hx : ∀ i, Rng (x i)) (ht : 0 ≤ t ∧ t ≤ 255) (hb : ∀ k, Rng (bad k).1 ∧ Rng (bad k).2)
    (hp : PairsAt w a L c bad) (hL : L ≤ maxLen) (hpow : Pow10 w) (h2 : 2 < w.heap.size) (hg : w.cell? ⟨2, 63, none⟩ = some (.int .u8 6)) :
    Calls Tryz.prog 3 #[.agg #[.int .i64 (x 0), .int .i64 (x 1), .int .i64 (x 2), .int .i64 (x 3), .int .i64 (x 4), .int .i64 (x 5), .int .i64 (x 6), .int .i64 (x 7), .int .i64 (x 8)], .slice a L c, .int .u8 t] w
      fun e w' => e = .returned (.bool true) ∧ Below w.heap.size w w' := by
  obtain ⟨c1, hwf⟩ := law_wf hx ht hb hp hL
  obtain ⟨r, hr⟩ : ∃ r : Nat, t % 10 = r := ⟨(t % 10).toNat, by omega⟩
  obtain ⟨b, hb2, hb1⟩ : ∃ b : Nat, ((r = 5 ∨ r = 6) → t / 10 % 2 = (b : Int)) ∧ (r, b) ∈ rbs := by
    by_cases h56 : r = 5 ∨ r = 6
    · refine ⟨(t / 10 % 2).toNat, fun _ => by omega, ?_⟩
      have : (t / 10 % 2).toNat = 0 ∨ (t / 10 % 2).toNat = 1 := by omega
      rcases h56 with rfl | rfl <;> rcases this with h | h <;> rw [h] <;> decide
    · refine ⟨0, fun h => absurd h h56, ?_⟩
      have hlt : r < 10 := by omega
      match r, hlt, h56 with
      | 0, _, _ => decide
      | 1, _, _ => decide
      | 2, _, _ => decide
      | 3, _, _ => decide
      | 4, _, _ => decide
      | 5, _, h => exact absurd (.inl rfl) h
      | 6, _, h => exact absurd (.inr rfl) h
      | 7, _, _ => decide
      | 8, _, _ => decide
      | 9, _, _ => decide
  have w0 := hwf 10 0 (fun h => absurd h (by omega)) (fun h => by omega)
  have w1 := hwf r b (fun _ => hr) hb2
  have hc := hchk (min L 10) (decide (0 < x 4)) (by omega)
  unfold chkO at hc
  generalize hpre : preRun ⟨min L 10, decide (0 < x 4), 10, 0⟩ = pr at hc
  split at hc
  · rename_i fr s
    have hs := List.all_eq_true.1 hc _ hb1
    unfold sufOk at hs
    generalize hsuf : code (eO ⟨min L 10, decide (0 < x 4), r, b⟩) (run (eO ⟨min L 10, decide (0 < x 4), r, b⟩) 10) (dropS 10 body3) fr s = sr at hs
    split at hs
    · rename_i fr2 s2
      obtain ⟨v, hv⟩ : ∃ v, v = lawVal x t L bad a L c a (min L 10) c1 := ⟨_, rfl⟩
      rw [← hv] at w0 w1
      letI : Toks := toks v
      have hCB : ∀ E, (ctxOf Tryz.prog w E).B = (ctxOf Tryz.prog w E).w0.heap.size := fun E => rfl
      have hI : ∀ q : Par, WfX v q w → IntrOK (ctxOf Tryz.prog w (envOf kT kF hdO (hookO q))) := by
        intro q hw f h hh
        rw [ctxOf_E, envOf_I] at hh
        unfold hdO at hh
        rcases bif_some hh with ⟨e, rfl⟩ | ⟨_, hh⟩
        · rw [Nat.eq_of_beq_eq_true e]; exact hItoaT_ok (ctxOf_P _ w _) (hCB _) hw.r hpow
        rcases bif_some hh with ⟨e, rfl⟩ | ⟨_, hh⟩
        · rw [Nat.eq_of_beq_eq_true e]; exact hWordT_ok (ctxOf_P _ w _) hw.r
        rcases bif_some hh with ⟨e, rfl⟩ | ⟨_, hh⟩
        · rw [Nat.eq_of_beq_eq_true e]; exact hLnO_ok (ctxOf_P _ w _) (hCB _) hw.r hpow
        rcases bif_some hh with ⟨e, rfl⟩ | ⟨_, hh⟩
        · rw [Nat.eq_of_beq_eq_true e]; exact hWk_ok (ctxOf_P _ w _) (hCB _) h2 hg
        rcases bif_some hh with ⟨e, rfl⟩ | ⟨_, hh⟩
        · rw [Nat.eq_of_beq_eq_true e]; exact hSlE_ok (ctxOf_P _ w _) hw
        · cases hh
      have hok : ∀ q : Par, WfX v q w → POK (ctxOf Tryz.prog w (envOf kT kF hdO (hookO q))) := fun q hw => pokOf w hdO (hookO_ok (ctxOf_P _ w _) hw (hCB _))
      have hcal : ∀ q : Par, WfX v q w → CallOK (ctxOf Tryz.prog w (envOf kT kF hdO (hookO q))) (run (eO q) 10) := fun q hw => run_ok (hok q hw) (hI q hw) 10
      have hR0 : Rel (ctxOf Tryz.prog w (envOf kT kF hdO (hookO ⟨min L 10, decide (0 < x 4), 10, 0⟩))) (fun _ => none) { heap := .nil, next := 0 } w :=
        ⟨Below.refl _ _, fun i p h => (by cases h), fun i p h => (by cases h), fun i j o o' p q _ _ h => (by cases h), fun i o h => (by rw [Tr.get_nil] at h; cases h), by show 0 ≤ 1000000; omega⟩
      have hA : VRs (fun _ => none) [xTok, .chan (some 5), .chan (some 338)] [.agg ⟨[.int .i64 (x 0), .int .i64 (x 1), .int .i64 (x 2), .int .i64 (x 3), .int .i64 (x 4), .int .i64 (x 5), .int .i64 (x 6), .int .i64 (x 7), .int .i64 (x 8)]⟩, .slice a L c, .int .u8 t] := by
        have T : ∀ k y, tokVal v k = some y → VR (fun _ => none) (.chan (some k)) y := fun k y h => .tok k y h
        subst hv
        refine VRs.cons (.mkAgg ?_) (VRs.cons (T 5 _ rfl) (VRs.cons (T 338 _ rfl) (VRs.nil _)))
        exact VRs.cons (T 16 _ rfl) <| VRs.cons (T 24 _ rfl) <| VRs.cons (T 32 _ rfl) <| VRs.cons (T 40 _ rfl) <| VRs.cons (T 48 _ rfl) <| VRs.cons (T 56 _ rfl) <| VRs.cons (T 64 _ rfl) <| VRs.cons (T 72 _ rfl) <| VRs.cons (T 80 _ rfl) <| VRs.nil _
      have hbody : Tryz.f3.body = some body3 := by kernel_rfl
      have hres : Tryz.f3.results = #[.tmp 6] := by kernel_rfl
      have hnt : Tryz.f3.ntmps = 302 := by kernel_rfl
      have hpre' : codeK (envOf kT kF hdO (hookO ⟨min L 10, decide (0 < x 4), 10, 0⟩)) (run (eO ⟨min L 10, decide (0 < x 4), 10, 0⟩) 10) 10 body3 { n := Tryz.f3.ntmps, t := Tr.ofList [xTok, .chan (some 5), .chan (some 338)] } { heap := .nil, next := 0 } = some (fr, s) := by
        rw [hnt]; exact hpre
      have key := calls_cut (C := ctxOf Tryz.prog w (envOf kT kF hdO (hookO ⟨min L 10, decide (0 < x 4), 10, 0⟩))) (E1 := envOf kT kF hdO (hookO ⟨min L 10, decide (0 < x 4), r, b⟩)) (f := 3) (fn := Tryz.f3)
        (hok _ w0) (hcal _ w0) (by rw [ctxOf_env]; exact hok _ w1) (by rw [ctxOf_env]; exact hcal _ w1) (by rw [ctxOf_P]; exact Tryz.func3) hbody hres (by rw [hnt]; simp) hR0 hA (by rw [ctxOf_E]; exact hpre') hsuf
      rw [ctxOf_P] at key
      refine key.mono fun e w' ⟨u, Φ', g1, g2, g3, g4⟩ => ⟨?_, g3.below⟩
      split at hs
      · rename_i bb hbb
        rw [hbb] at g2
        subst hs
        rw [g1, g2.bool_inv]
      · cases hs
    · cases hs
  · cases hc
end Go.Proofs.YtkacieekahfdmaaGreatDoor
set_option linter.unusedSectionVars false
namespace Go.Proofs.YtkacieekahfdmaaGreatDoor
open Go Go.ChangeShapes Go.WideShapes Go.ChangeAt Go.WideMaps Go.WideElems Go.RowKit
open Go.Abs (Tr)
theorem rng_of_wf {y : Int} (h : (Lit.int .i64 y).wf = true) : Rng y := by
  exact bounds_i64 h
theorem arr22 : ArrKey Tryz.prog 22 3 9 := ⟨Tryz.underlying22, by kernel_rfl, by kernel_rfl, by kernel_rfl⟩
set_option maxRecDepth 100000
theorem cells3 : Tryz.prog.cellsOf 3 = 1 := by kernel_rfl
theorem cells25 : Tryz.prog.cellsOf 25 = 2 := by kernel_rfl
theorem cell_int {H : Type} {enc : TypeId × Value → H} {W : World} {fuel : Nat} {c : Value} {y : DataW H × List MemPlace} (h : DataW.trod enc Tryz.prog W 0 (fun _ => true) true fuel 3 [c] = some y) : ∃ n, c = .int .i64 n ∧ Rng n := by
  obtain ⟨k, e1, _, wf⟩ := DataW.trod_int Tryz.underlying3 h
  exact ⟨k, by simpa using e1, rng_of_wf wf⟩
/-- nine numbers, by value -/
theorem open_nine {H : Type} {enc : TypeId × Value → H} {W : World} {b0 : Nat} {v : Value} {d : DataW H} {p : List MemPlace} (hv : Value.okWide Tryz.prog W .any b0 22 v) (h : DataW.Trod enc Tryz.prog W 0 (fun _ => true) true 22 v d p) :
    ∃ x : Nat → Int, (∀ i, Rng (x i)) ∧ v = .agg #[.int .i64 (x 0), .int .i64 (x 1), .int .i64 (x 2), .int .i64 (x 3), .int .i64 (x 4), .int .i64 (x 5), .int .i64 (x 6), .int .i64 (x 7), .int .i64 (x 8)] := by
  obtain ⟨⟨cs⟩, rfl, hsz⟩ := okWide_arr arr22 hv
  match cs, hsz with
  | [c0, c1, c2, c3, c4, c5, c6, c7, c8], _ =>
    obtain ⟨fuel, hf⟩ := h
    obtain ⟨y, hy, _⟩ := Option.map_eq_some_iff.1 (show (DataW.trod enc Tryz.prog W 0 (fun _ => true) true fuel 22 [c0, c1, c2, c3, c4, c5, c6, c7, c8]).map id = some (d, p) by simpa [Value.cells] using hf)
    obtain ⟨xs, m, _, _, _, hn, hel⟩ := DataW.trod_array Tryz.underlying22 hy
    have key : ∀ (i : Nat) c, i < 9 → [c0, c1, c2, c3, c4, c5, c6, c7, c8][i]? = some c → ∃ n, c = .int .i64 n ∧ Rng n := by
      intro i c hi hc
      have h1 := hel i hi
      rw [cells3] at h1
      have hlt : i < [c0, c1, c2, c3, c4, c5, c6, c7, c8].length := hi
      have e : (([c0, c1, c2, c3, c4, c5, c6, c7, c8].drop (i * 1)).take 1) = [c] := by
        rw [Nat.mul_one, List.drop_eq_getElem_cons hlt]
        rw [List.getElem?_eq_getElem hlt] at hc
        cases hc
        simp
      rw [e, List.getElem?_eq_getElem (by omega)] at h1
      exact cell_int h1
    obtain ⟨n0, rfl, r0⟩ := key 0 c0 (by omega) rfl
    obtain ⟨n1, rfl, r1⟩ := key 1 c1 (by omega) rfl
    obtain ⟨n2, rfl, r2⟩ := key 2 c2 (by omega) rfl
    obtain ⟨n3, rfl, r3⟩ := key 3 c3 (by omega) rfl
    obtain ⟨n4, rfl, r4⟩ := key 4 c4 (by omega) rfl
    obtain ⟨n5, rfl, r5⟩ := key 5 c5 (by omega) rfl
    obtain ⟨n6, rfl, r6⟩ := key 6 c6 (by omega) rfl
    obtain ⟨n7, rfl, r7⟩ := key 7 c7 (by omega) rfl
    obtain ⟨n8, rfl, r8⟩ := key 8 c8 (by omega) rfl
    refine ⟨fun i => ([n0, n1, n2, n3, n4, n5, n6, n7, n8][i]?).getD 0, fun i => ?_, rfl⟩
    match i with
    | 0 => exact r0
    | 1 => exact r1
    | 2 => exact r2
    | 3 => exact r3
    | 4 => exact r4
    | 5 => exact r5
    | 6 => exact r6
    | 7 => exact r7
    | 8 => exact r8
    | i + 9 => simp; exact rng0
/-- a slice of pairs -/
theorem open_pairs {H : Type} {enc : TypeId × Value → H} {W : World} {a : Option Addr} {L c fuel : Nat} {x : DataW H × List MemPlace} (hf : DataW.trod enc Tryz.prog W 0 (fun _ => true) true fuel 23 [.slice a L c] = some x) :
    L ≤ maxLen ∧ ∃ bad : Nat → Int × Int, (∀ k, Rng (bad k).1 ∧ Rng (bad k).2) ∧ PairsAt W a L c bad := by
  rcases Deep.open_slice Tryz.underlying23 hf with ⟨hcs, _⟩ | ⟨y, len, cap, m, n, D, Pl, hcs, _, hl, hm, hmm, _, hel⟩
  · simp at hcs
    obtain ⟨rfl, rfl, rfl⟩ := hcs
    exact ⟨Nat.zero_le _, fun _ => (0, 0), fun _ => ⟨rng0, rng0⟩, .inl ⟨rfl, rfl, rfl⟩⟩
  · simp at hcs
    obtain ⟨rfl, rfl, rfl⟩ := hcs
    refine ⟨by omega, ?_⟩
    have one : ∀ k, k < L → ∃ p : Int × Int, Rng p.1 ∧ Rng p.2 ∧ W.cell? (y.add (k * 2)) = some (.int .i64 p.1) ∧ W.cell? ((y.add (k * 2)).add 1) = some (.int .i64 p.2) := by
      intro k hk
      have hm' : m = c := by rw [hmm]; rfl
      obtain ⟨cs', h1, h2⟩ := hel k (by omega)
      rw [cells25] at h1
      obtain ⟨_, hlen, hget⟩ := World.cells?_some h1
      match cs', hlen with
      | [e0, e1], _ =>
        obtain ⟨xs, m', _, _, _, hn, hel2⟩ := DataW.trod_array Tryz.underlying25 h2
        have h3 := hel2 0 (by omega)
        have h4 := hel2 1 (by omega)
        rw [cells3, List.getElem?_eq_getElem (by omega)] at h3 h4
        obtain ⟨n0, rfl, r0⟩ := cell_int h3
        obtain ⟨n1, rfl, r1⟩ := cell_int h4
        refine ⟨(n0, n1), r0, r1, ?_, ?_⟩
        · have := hget 0 (by omega)
          simpa [Addr.add] using this
        · have := hget 1 (by omega)
          simpa using this
    obtain ⟨V, hV⟩ := Deep.choose_lt (α := Int × Int) (p := fun k p => Rng p.1 ∧ Rng p.2 ∧ W.cell? (y.add (k * 2)) = some (.int .i64 p.1) ∧ W.cell? ((y.add (k * 2)).add 1) = some (.int .i64 p.2)) one
    refine ⟨fun k => if k < L then V k else (0, 0), fun k => ?_, .inr ⟨y, rfl, hl, hm, fun k hk => ?_⟩⟩
    · by_cases h : k < L
      · simp only [h, if_true]; exact ⟨(hV k h).1, (hV k h).2.1⟩
      · simp only [h, if_false]; exact ⟨rng0, rng0⟩
    · obtain ⟨_, _, h3, h4⟩ := hV k hk
      obtain ⟨_, _, g3, _⟩ := hV 0 (by omega)
      obtain ⟨b, off, spot⟩ := y
      have hspot : spot = none := by simpa [Addr.add] using World.cell?_spot g3
      subst hspot
      rw [Go.WideShapes.add_plain] at h3 h4
      rw [Go.WideShapes.add_plain] at h4
      refine ⟨b, off, rfl, ?_, ?_, ?_⟩
      · rcases Nat.lt_or_ge b W.heap.size with h' | h'
        · exact h'
        · unfold World.cell? at h3
          rw [Array.getElem?_eq_none h'] at h3
          cases h3
      · simp only [hk, if_true]; exact h3
      · simp only [hk, if_true]; exact h4
end Go.Proofs.YtkacieekahfdmaaGreatDoor
