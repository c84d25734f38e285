import Derived.Test.YtkacieekahfdmaaGreatDoorLawB
import Derived.Test.YtkacieekahfdmaaGreatDoorFactB
import Derived.Test.YtkacieekahfdmaaGreatDoorRunA
import Derived.Test.YtkacieekahfdmaaGreatDoorRunB
import Derived.Test.YtkacieekahfdmaaGreatDoorRunC
import Derived.Test.YtkacieekahfdmaaGreatDoorRunD
import Derived.Test.YtkacieekahfdmaaGreatDoorRunE
import Derived.Test.YtkacieekahfdmaaGreatDoorRunF
import Derived.Test.YtkacieekahfdmaaGreatDoorCards
import Derived.Test.YtkacieekahfdmaaGreatDoorTie
import Derived.WalkKit
import Derived.ProofKit
import Derived.OpenShut
import Derived.ShutString
import Derived.ChangeOld
import Derived.Below
import Derived.LaidMore
import Derived.Stop.Joined
import Derived.SevenTiedAt
import Derived.WideKeyArr2
import Derived.Deep.Slices
import Derived.Lib.LaidTab
import Derived.Stop.LaidErr
set_option linter.unusedSimpArgs false
set_option linter.unusedVariables false
set_option linter.unusedSectionVars false
set_option linter.unusedSectionVars false
namespace Go.Proofs.YtkacieekahfdmaaGreatDoor
open Go Go.ChangeShapes Go.WideShapes Go.ChangeAt Go.WideMaps Go.WideElems Go.RowKit
open Go.Abs (Tr)
theorem chk_all (n : Nat) (d : Bool) (h : n ≤ 10) : chkO n d = true := by
  match n, d, h with
  | 0, false, _ => exact run_0_false
  | 0, true, _ => exact run_0_true
  | 1, false, _ => exact run_1_false
  | 1, true, _ => exact run_1_true
  | 2, false, _ => exact run_2_false
  | 2, true, _ => exact run_2_true
  | 3, false, _ => exact run_3_false
  | 3, true, _ => exact run_3_true
  | 4, false, _ => exact run_4_false
  | 4, true, _ => exact run_4_true
  | 5, false, _ => exact run_5_false
  | 5, true, _ => exact run_5_true
  | 6, false, _ => exact run_6_false
  | 6, true, _ => exact run_6_true
  | 7, false, _ => exact run_7_false
  | 7, true, _ => exact run_7_true
  | 8, false, _ => exact run_8_false
  | 8, true, _ => exact run_8_true
  | 9, false, _ => exact run_9_false
  | 9, true, _ => exact run_9_true
  | 10, false, _ => exact run_10_false
  | 10, true, _ => exact run_10_true
set_option maxRecDepth 100000 in
theorem lifted (os : Os) (started : os.Started) (H : Type) (enc : TypeId × Value → H) :
    ReturnsInHanded {} Tryz.checked os 3 .any (fun w args => (Rows.statusLinesSpec.pre enc Tryz.prog Tryz.f3 [] false w args ∧ laidMetH Tryz.prog laidL w) ∧ sizedMet enc Tryz.prog Tryz.f3 (OpenSpec.ofChange Rows.statusLinesSpec) false w args)
      (Rows.statusLinesSpec.post enc Tryz.prog Tryz.f3 false true false false) := by
  refine returnsInHanded_of_change_and (C := Tryz.checked) (X := fun w _ => laidMetH Tryz.prog laidL w) (fun _ _ _ hh h => h.of_heap hh) own started (by kernel_rfl) Tryz.func3
    (ChangeSpec.witness_shaped (enc := enc) (C := Tryz.checked) (os := os) (X := fun w _ => laidMetH Tryz.prog laidL w) false (World.doorLaid Tryz.prog 24 os) #[.agg #[.int .i64 0, .int .i64 0, .int .i64 0, .int .i64 0, .int .i64 0, .int .i64 0, .int .i64 0, .int .i64 0, .int .i64 0], .slice none 0 0, .int .u8 0] 8 rfl (World.shaped_of_RefB (by kernel_rfl) (by kernel_rfl)) (by kernel_rfl) (by kernel_rfl) (by kernel_rfl) (door_met os _)) ?_
  intro W base args ds gs before hval0 hW _ _ hL _
  have hval : ∀ (j : Nat) t v, Tryz.f3.params[j]? = some t → args[j]? = some v → Value.okWide Tryz.prog W .any base t v := hval0
  have hW' := hW
  obtain ⟨p, q, hA0, hV, rfl, hfz, hnd⟩ := hW
  have hA : DataW.TrodAll enc Tryz.prog W 0 (fun _ => true) true Tryz.f3.params.toList args.toList ds p := hA0
  rw [Tryz.params3] at hA hval
  obtain ⟨v0, vs0, d0, ds0, p0, q0, hargs, rfl, rfl, h0, r0⟩ := trodAll_cons hA
  obtain ⟨v1, vs1, d1, ds1, p1, q1, rfl, rfl, rfl, h1, r1⟩ := trodAll_cons r0
  obtain ⟨v2, vs2, d2, ds2, p2, q2, rfl, rfl, rfl, h2, r2⟩ := trodAll_cons r1
  obtain ⟨rfl, rfl, rfl⟩ := trodAll_nil r2
  obtain rfl : args = #[v0, v1, v2] := by cases args; simp_all
  obtain ⟨rfl, rfl⟩ := trodVars_none hV
  have k0 := h0
  have lt0 : ∀ x ∈ p0, x.block < W.heap.size := by obtain ⟨m, hm⟩ := k0; exact DataW.trod_lt m _ _ _ hm
  obtain ⟨x, hx, rfl⟩ := open_nine (hval 0 22 v0 rfl rfl) h0
  obtain ⟨a1, len1, cap1, rfl⟩ := okWide_slice Tryz.underlying23 (hval 1 23 v1 rfl rfl)
  have k1 := h1
  have lt1 : ∀ x ∈ p1, x.block < W.heap.size := by obtain ⟨m, hm⟩ := k1; exact DataW.trod_lt m _ _ _ hm
  obtain ⟨hLen, bad, hbad, hpairs⟩ : len1 ≤ maxLen ∧ ∃ bad : Nat → Int × Int, (∀ k, Rng (bad k).1 ∧ Rng (bad k).2) ∧ PairsAt W a1 len1 cap1 bad := by
    obtain ⟨fuel, hf⟩ := h1
    exact open_pairs (by simpa [Value.cells] using hf)
  obtain ⟨a2, rfl, rfl, rfl, w2⟩ := open_int Tryz.underlying5 (hval 2 5 v2 rfl rfl) h2
  obtain ⟨hpow, h2s, hg⟩ := of_laid hL
  have ht : 0 ≤ a2 ∧ a2 ≤ 255 := bounds_u8 w2
  clear hA0 hval0
  refine (law_calls (fun n d h => chk_all n d h) hx ht hbad hpairs hLen hpow h2s hg).mono fun e W' ⟨he, bel⟩ => ?_
  subst he
  exact ⟨_, rfl, _, _, _, [], _, [], hW', trodAll_mk1 (shut_bool Tryz.underlying4 _), (trodAll_cons_mk (Below.trod laidOut (by kernel_rfl) (of_decide_eq_true (by kernel_rfl)) k0 bel lt0) (trodAll_cons_mk (Below.trod laidOut (by kernel_rfl) (of_decide_eq_true (by kernel_rfl)) k1 bel lt1) (trodAll_cons_mk (shut_int Tryz.underlying5 w2) trodAll_mk0))), rfl, bel.frame _, fun h => by cases h⟩
theorem statusLines_holds : Rows.StatusLinesSaid :=
  OpenClaim.holds_of_wide 3 Tryz.f3 rfl rfl rfl rfl rfl rfl rfl ⟨rfl, rfl, rfl, rfl, rfl⟩ rfl rfl rfl rfl rfl (by kernel_rfl) Tryz.func3 closedFacts
    (of_decide_eq_true (by kernel_rfl)) (by unfold Func.isWrapper; first | (rw [if_pos (by decide +kernel)]; kernel_rfl) | (rw [if_neg (by decide +kernel)]; exact ⟨rfl, rfl⟩))
    (fun os started H enc _ => lifted os started H enc)
end Go.Proofs.YtkacieekahfdmaaGreatDoor
