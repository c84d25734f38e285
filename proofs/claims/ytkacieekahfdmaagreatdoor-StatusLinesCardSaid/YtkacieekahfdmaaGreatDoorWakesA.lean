import Derived.Test.YtkacieekahfdmaaGreatDoorCutA
import Derived.Test.YtkacieekahfdmaaGreatDoorCutB
import Derived.Test.YtkacieekahfdmaaGreatDoorCutC
import Derived.Test.YtkacieekahfdmaaGreatDoorCutE
import Derived.Test.YtkacieekahfdmaaGreatDoorCutF
set_option linter.unusedSimpArgs false
set_option linter.unusedVariables false
set_option linter.unusedSectionVars false
set_option linter.unusedSectionVars false
namespace Go.Proofs.YtkacieekahfdmaaGreatDoor
open Go Go.RowKit Go.Abs
noncomputable def ctxOf (P : Program) (w : World) (E : Env) : Ctx := { P, E, B := w.heap.size, w0 := w, crc := .cells #[] 0 (0, 0), hB := Nat.le_refl _ }
theorem ctxOf_P (P : Program) (w : World) (E : Env) : (ctxOf P w E).P = P := rfl
theorem ctxOf_E (P : Program) (w : World) (E : Env) : (ctxOf P w E).E = E := rfl
theorem ctxOf_B (P : Program) (w : World) (E : Env) : (ctxOf P w E).B = w.heap.size := rfl
theorem ctxOf_w (P : Program) (w : World) (E : Env) : (ctxOf P w E).w0 = w := rfl
theorem ctxOf_env (P : Program) (w : World) (E E' : Env) : ({ ctxOf P w E with E := E' } : Ctx) = ctxOf P w E' := rfl
variable [Toks]
theorem noHook_ok (C : Ctx) : HookOK C noHook := by intro op vs v h; cases h
theorem pokOf (w : World) (i : FuncId → Option Hd) {k : Op → List Value → Option Value} (hk : HookOK (ctxOf Tryz.prog w (envOf kT kF i k)) k) : POK (ctxOf Tryz.prog w (envOf kT kF i k)) :=
  pok _ (ctxOf_P _ w _) (by rw [ctxOf_E, envOf_T]) (by rw [ctxOf_E, envOf_F]) (fun t => by rw [ctxOf_E, envOf_S]) (by rw [ctxOf_E, envOf_K]; exact hk)
theorem bif_some {α : Type} {b : Bool} {x : α} {o : Option α} {y : α} (h : (bif b then some x else o) = some y) : (b = true ∧ x = y) ∨ (b = false ∧ o = some y) := by
  cases b
  · exact .inr ⟨rfl, h⟩
  · exact .inl ⟨rfl, Option.some.inj h⟩
section
variable (w : World) (hsz : 2 < w.heap.size) (hg : w.cell? ⟨2, 63, none⟩ = some (.int .u8 6))
include hsz hg
theorem base_ok (E : Env) {f : FuncId} {h : Hd} (hh : hdBase f = some h) : HdOK (ctxOf Tryz.prog w E) f h := by
  unfold hdBase at hh
  rcases bif_some hh with ⟨e, rfl⟩ | ⟨_, hh⟩
  · rw [Nat.eq_of_beq_eq_true e]; exact hMake_ok (ctxOf_P _ w E)
  rcases bif_some hh with ⟨e, rfl⟩ | ⟨_, hh⟩
  · rw [Nat.eq_of_beq_eq_true e]; exact hOn_ok (ctxOf_P _ w E) 252
  rcases bif_some hh with ⟨e, rfl⟩ | ⟨_, hh⟩
  · rw [Nat.eq_of_beq_eq_true e]; exact hRepeat_ok (ctxOf_P _ w E)
  rcases bif_some hh with ⟨e, rfl⟩ | ⟨_, hh⟩
  · rw [Nat.eq_of_beq_eq_true e]; exact hTzOne_ok (ctxOf_P _ w E) hsz hg
  rcases bif_some hh with ⟨e, rfl⟩ | ⟨_, hh⟩
  · rw [Nat.eq_of_beq_eq_true e]; exact hBStr_ok (ctxOf_P _ w E)
  · cases hh
theorem intr_base : IntrOK (ctxOf Tryz.prog w eBase) := by
  intro f h hh
  rw [ctxOf_E] at hh
  exact base_ok w hsz hg eBase hh
theorem cut_base {c : Cut} (h : chkCut eBase 60 c = true) (E : Env) : HdOK (ctxOf Tryz.prog w E) c.f (hCut c) := by
  have k : HdOK (ctxOf Tryz.prog w eBase) c.f (hCut c) := cut_ok (pokOf w hdBase (noHook_ok _)) (intr_base w hsz hg) (by rw [ctxOf_E]; exact h)
  rw [← ctxOf_env Tryz.prog w E eBase] at k
  exact k.env
theorem intr_one : IntrOK (ctxOf Tryz.prog w eOne) := by
  intro f h hh
  rw [ctxOf_E] at hh
  have hh : hdOne f = some h := hh
  unfold hdOne at hh
  rcases bif_some hh with ⟨e, rfl⟩ | ⟨_, hh⟩
  · rw [Nat.eq_of_beq_eq_true e]; exact cut_base w hsz hg chk_c1 eOne
  rcases bif_some hh with ⟨e, rfl⟩ | ⟨_, hh⟩
  · rw [Nat.eq_of_beq_eq_true e]; exact cut_base w hsz hg chk_c2 eOne
  exact base_ok w hsz hg eOne hh
theorem cut_one {c : Cut} (h : chkCut eOne 60 c = true) (E : Env) : HdOK (ctxOf Tryz.prog w E) c.f (hCut c) := by
  have k : HdOK (ctxOf Tryz.prog w eOne) c.f (hCut c) := cut_ok (pokOf w hdOne (noHook_ok _)) (intr_one w hsz hg) (by rw [ctxOf_E]; exact h)
  rw [← ctxOf_env Tryz.prog w E eOne] at k
  exact k.env
theorem intr_two : IntrOK (ctxOf Tryz.prog w eTwo) := by
  intro f h hh
  rw [ctxOf_E] at hh
  have hh : hdTwo f = some h := hh
  unfold hdTwo at hh
  rcases bif_some hh with ⟨e, rfl⟩ | ⟨_, hh⟩
  · rw [Nat.eq_of_beq_eq_true e]; exact cut_base w hsz hg chk_c0 eTwo
  rcases bif_some hh with ⟨e, rfl⟩ | ⟨_, hh⟩
  · rw [Nat.eq_of_beq_eq_true e]; exact cut_one w hsz hg chk_c3 eTwo
  rcases bif_some hh with ⟨e, rfl⟩ | ⟨_, hh⟩
  · rw [Nat.eq_of_beq_eq_true e]; exact cut_base w hsz hg chk_c4 eTwo
  exact base_ok w hsz hg eTwo hh
omit [Toks] in
/-- wakes() of the law's package: true, and nothing that was there is touched -/
theorem wakes_calls : Calls Tryz.prog 8 #[] w fun e w' => e = .returned (.bool true) ∧ Below w.heap.size w w' := by
  letI : Toks := ⟨fun _ => none, fun _ _ h => by cases h⟩
  have hr := wakes_run
  unfold wakesRun at hr
  generalize hrun : run eTwo 60 8 [] { heap := .nil, next := 0 } = r at hr
  split at hr
  · rename_i b s
    subst hr
    have hR0 : Rel (ctxOf Tryz.prog w eTwo) (fun _ => none) { heap := .nil, next := 0 } w :=
      ⟨Below.refl _ _, fun i p h => (by cases h), fun i p h => (by cases h), fun i j o o' p q _ _ h => (by cases h), fun i o h => (by rw [Tr.get_nil] at h; cases h), by show 0 ≤ 1000000; omega⟩
    obtain ⟨_, g⟩ := run_ok (C := ctxOf Tryz.prog w eTwo) (pokOf w hdTwo (noHook_ok _)) (intr_two w hsz hg) 60 _ _ w 8 [] [] _ s hR0 (VRs.nil _) (by rw [ctxOf_E]; exact hrun)
    refine g.mono fun e w' ⟨u, Φ', h1, h2, h3, h4⟩ => ⟨?_, h3.below⟩
    rw [h1, h2.bool_inv]
  · cases hr
end
end Go.Proofs.YtkacieekahfdmaaGreatDoor
