import Derived.Test.YtkacieekahfdmaaGreatDoorAbsD
import Derived.RangeFuncIn
import Derived.RangeFuncRecord
import Derived.RangeFuncLeaves
import Derived.ControlIn
import Derived.Laws.Entries
import Derived.Lib.ItoaLen
set_option linter.unusedSimpArgs false
set_option linter.unusedVariables false
set_option linter.unusedSectionVars false
set_option linter.unusedSectionVars false
namespace Go.Abs
open Go Go.RowKit
variable [Toks]
variable {ds : List Deferred}

/-- the deferred records of the loops that have ended: laid since N, empty, no live objects -/
def DOK (N : Nat) (Φ : Ph) (s : AS) (w : World) (ds : List Deferred) : Prop :=
  ds.Nodup ∧ ∀ d ∈ ds, ∃ D, d = { target := .collected D, args := #[] } ∧ N ≤ D ∧ D < w.heap.size ∧ w.heap[D]? = some (.deferred (some [])) ∧ ∀ i o p, s.heap.get i = some o → Φ i = some p → p.b ≠ D

theorem DOK.nil (N : Nat) (Φ : Ph) (s : AS) (w : World) : DOK N Φ s w [] := ⟨List.nodup_nil, fun d h => by cases h⟩
theorem DOK.step {N : Nat} {Φ Φ' : Ph} {s s' : AS} {w w' : World} (h : DOK N Φ s w ds) (hS : Stp Φ s w Φ' s' w') : DOK N Φ' s' w' ds := by
  refine ⟨h.1, fun d hd => ?_⟩
  obtain ⟨D, h1, h2, h3, h4, h5⟩ := h.2 d hd
  refine ⟨D, h1, h2, Nat.lt_of_lt_of_le h3 hS.sz, by rw [hS.out D h3 h5]; exact h4, fun i o p hi hp => ?_⟩
  rcases hS.img i o p hi hp with h' | ⟨j, o', p', a, b, c⟩
  · omega
  · rw [← c]; exact h5 j o' p' a b

section
variable {C : Ctx} {Φ : Ph} {s : AS} {w : World}

/-- a block that nobody knows -/
theorem Rel.junk (h : Rel C Φ s w) (o : Obj) : Rel C Φ s (w.alloc o) ∧ Stp Φ s w Φ s (w.alloc o) := by
  refine ⟨⟨h.below.alloc h.base o, h.fresh, fun i p hp => ?_, h.inj, fun i ob hi => ?_, h.room⟩, ⟨Ext.refl _, Nat.le_refl _, fun _ _ a _ => a, by simp, fun k hk _ => heap_alloc _ _ _ hk, fun i ob p a b => .inr ⟨i, ob, p, a, b, rfl⟩, fun _ ob _ a => ⟨ob, a⟩⟩⟩
  · have := h.lt i p hp; simp; omega
  · obtain ⟨p, c, h1, h2, h3⟩ := h.obj i ob hi
    exact ⟨p, c, h1, by rw [heap_alloc _ _ _ (h.lt i p h1).2]; exact h2, h3⟩

/-- an object that nobody knows turns -/
theorem Rel.poke (h : Rel C Φ s w) {k : Nat} (hk : C.B ≤ k) (hn : ∀ i o p, s.heap.get i = some o → Φ i = some p → p.b ≠ k) (o : Obj) : Rel C Φ s (w.putObj k o) := by
  refine ⟨⟨h.below.os, h.below.tape, h.below.output, by simpa using h.below.size, fun j hj => ?_⟩, h.fresh, fun i p hp => ?_, h.inj, fun i ob hi => ?_, h.room⟩
  · rw [World.putObj_heap_other (by omega)]; exact h.below.block j hj
  · rw [World.putObj_size]; exact h.lt i p hp
  · obtain ⟨p, c, h1, h2, h3⟩ := h.obj i ob hi
    exact ⟨p, c, h1, by rw [World.putObj_heap_other (hn i ob p hi h1)]; exact h2, h3⟩
theorem Stp.poke {Φ0 : Ph} {s0 : AS} {w0 : World} (h : Stp Φ0 s0 w0 Φ s w) {k : Nat} (hk : w0.heap.size ≤ k) (o : Obj) : Stp Φ0 s0 w0 Φ s (w.putObj k o) :=
  ⟨h.ext, h.nx, h.old, by rw [World.putObj_size]; exact h.sz, fun j hj hn => by rw [World.putObj_heap_other (by omega)]; exact h.out j hj hn, h.img, h.dom⟩

/-- how a function is left where loops have left their records -/
theorem leaves_of {P : Program} {n : Nat} {fn : Func} {tmps : Array Value} {R : Ending → World → Prop} {Φ0 : Ph} {s0 : AS} {w0 : World} (hB : C.B ≤ w0.heap.size) (hP : ∀ w', Rel C Φ s w' → Stp Φ0 s0 w0 Φ s w' → ∃ v, (results fn tmps).run P w' = .ok v w' ∧ R (.returned v) w') :
    ∀ (ds : List Deferred) (w : World), Rel C Φ s w → Stp Φ0 s0 w0 Φ s w → DOK w0.heap.size Φ s w ds → LeavesInM Fence.wide n P fn tmps R ds .returning w := by
  intro ds
  induction ds with
  | nil => intro w hR hS _; exact hP w hR hS
  | cons d ds ih =>
    intro w hR hS hD
    obtain ⟨D, rfl, h2, h3, h4, h5⟩ := hD.2 _ List.mem_cons_self
    have hnd := hD.1
    rw [List.nodup_cons] at hnd
    refine ⟨by simp, .inl ⟨D, _, rfl, run_takeDeferred h4, ih _ (hR.poke (by omega) h5 _) (hS.poke h2 _) ⟨hnd.2, fun d hd => ?_⟩⟩⟩
    obtain ⟨D', g1, g2, g3, g4, g5⟩ := hD.2 d (List.mem_cons_of_mem _ hd)
    have hne : D' ≠ D := fun e => hnd.1 (by rw [← e, ← g1]; exact hd)
    exact ⟨D', g1, g2, by rw [World.putObj_size]; exact g3, by rw [World.putObj_heap_other hne]; exact g4, g5⟩
end

section
variable {C : Ctx} (ok : POK C) {call : CallF} (hcall : CallOK C call) {Φ : Ph} {s : AS} {w : World}

include ok hcall in
/-- a range over a function whose rounds never come -/
theorem range_zero {N : Nat} (hR : Rel C Φ s w) {fr : Fr} {a : Act} (hF : FR ds Φ fr a) (hD : DOK N Φ s w ds) (hN : N ≤ w.heap.size) {g : Operand} {ps : Array Tmp} {assign body : Code} {gf : FuncId} {y : Array Value} {v : Value} {s' : AS}
    (hg : opd fr g = some (.func (.func gf) #[] y)) (hc : call gf (yv :: y.toList) s = some (v, s')) {Q : Exit → Act → World → Prop}
    (hQ : ∀ a' w' Φ' ds', FR ds' Φ' fr a' → DOK N Φ' s' w' ds' → Rel C Φ' s' w' → Stp Φ s w Φ' s' w' → Q .normal a' w') : (Code.rangeFunc g ps assign body).wp C.P Q a w := by
  rw [← wpIn_wide (n := 1)]
  refine wpIn_rangeFunc ?_
  intro fn _
  obtain ⟨us, ws, hval, hx, hy⟩ := (hF.opd hg).func_inv
  cases hx.nil_inv
  obtain ⟨hR1, hS1⟩ := hR.junk (.deferred (some []))
  obtain ⟨hR2, hS2⟩ := hR1.junk (.loop { state := .ready, pending := none, fn, tmps := a.tmps, params := ps, assign, body, defers := w.heap.size })
  have hS := hS1.trans hS2
  have hL : ((w.alloc (.deferred (some []))).alloc (.loop { state := .ready, pending := none, fn, tmps := a.tmps, params := ps, assign, body, defers := w.heap.size })).heap[w.heap.size + 1]? = some (.loop { state := .ready, pending := none, fn, tmps := a.tmps, params := ps, assign, body, defers := w.heap.size }) := by
    have := heap_alloc_new (w.alloc (.deferred (some []))) (.loop { state := .ready, pending := none, fn, tmps := a.tmps, params := ps, assign, body, defers := w.heap.size })
    simpa using this
  have hK : ((w.alloc (.deferred (some []))).alloc (.loop { state := .ready, pending := none, fn, tmps := a.tmps, params := ps, assign, body, defers := w.heap.size })).heap[w.heap.size]? = some (.deferred (some [])) := by
    rw [heap_alloc _ _ _ (by simp)]
    exact heap_alloc_new w _
  have hsz : ((w.alloc (.deferred (some []))).alloc (.loop { state := .ready, pending := none, fn, tmps := a.tmps, params := ps, assign, body, defers := w.heap.size })).heap.size = w.heap.size + 2 := by simp
  generalize hW : ((w.alloc (.deferred (some []))).alloc (.loop { state := .ready, pending := none, fn, tmps := a.tmps, params := ps, assign, body, defers := w.heap.size })) = W1 at *
  obtain ⟨⟨fnd, hfn1, hfn2⟩, hcl⟩ := hcall Φ s W1 gf _ (.func (.yield (w.heap.size + 1)) #[] #[] :: ws) v s' hR2 (VRs.cons (.yld _) hy) hc
  refine ⟨w.heap.size + 1, [{ target := .collected w.heap.size, args := #[] }], W1, { target := .fn (.func gf) ⟨ws⟩, args := #[.func (.yield (w.heap.size + 1)) #[] #[]] }, W1, gf, ⟨.func (.yield (w.heap.size + 1)) #[] #[] :: ws⟩, W1, ?_, ?_, fun _ _ => trivial, ?_, fun h => (by cases h), ?_⟩
  · rw [← hW]; exact run_enterLoop_outer _ _ _ _ _
  · simp only [resolve, hval]
    simp [go_sem]
  · have e : (⟨.func (.yield (w.heap.size + 1)) #[] #[] :: ws⟩ : Array Value) = #[.func (.yield (w.heap.size + 1)) #[] #[]] ++ ⟨ws⟩ := by apply Array.ext'; simp
    rw [e]
    exact run_callFunc ok hfn1 hfn2 _ _
  · refine callsIn_wide.2 (hcl.mono ?_)
    rintro e W2 ⟨u, Φ', rfl, _, r2, r3⟩
    have hnl : ∀ i o p, s.heap.get i = some o → Φ i = some p → p.b < w.heap.size := fun i o p _ hp => (hR.lt i p hp).2
    have hl2 : W2.heap[w.heap.size + 1]? = some (.loop { state := .ready, pending := none, fn, tmps := a.tmps, params := ps, assign, body, defers := w.heap.size }) := by
      rw [r3.out _ (by omega) (fun i o p hi hp => by have := hnl i o p hi hp; omega)]; exact hL
    have hk2 : W2.heap[w.heap.size]? = some (.deferred (some [])) := by
      rw [r3.out _ (by omega) (fun i o p hi hp => by have := hnl i o p hi hp; omega)]; exact hK
    have hlive : ∀ k, w.heap.size ≤ k → k < w.heap.size + 2 → ∀ i o p, s'.heap.get i = some o → Φ' i = some p → p.b ≠ k := by
      intro k h1 h2 i o p hi hp
      rcases r3.img i o p hi hp with h' | ⟨j, o', p', a', b', c'⟩
      · omega
      · have := hnl j o' p' a' b'; omega
    have hSt := (hS.trans r3).poke (k := w.heap.size + 1) (by omega) (.loop { state := .exhausted, pending := none, fn, tmps := a.tmps, params := ps, assign, body, defers := w.heap.size })
    have hB := hR.base
    refine ⟨none, _, run_endLoop hl2 (by simp), ?_⟩
    refine hQ _ _ Φ' ({ target := .collected w.heap.size, args := #[] } :: ds) ?_ ?_ (r2.poke (by omega) (hlive _ (by omega) (by omega)) _) hSt
    · refine ⟨hF.size, ?_, fun i => (hF.val i).mono r3.ext⟩
      show [_] ++ a.defers = _
      rw [hF.defers]; rfl
    · have hD' := hD.step hSt
      have hsz2 := r3.sz
      refine ⟨?_, fun d hd => ?_⟩
      · rw [List.nodup_cons]
        refine ⟨fun hm => ?_, hD'.1⟩
        obtain ⟨D, g1, g2, g3, _⟩ := hD.2 _ hm
        injection g1 with g1 _
        injection g1 with g1
        omega
      · rcases List.mem_cons.1 hd with rfl | hd
        · exact ⟨w.heap.size, rfl, hN, by rw [World.putObj_size]; omega, by rw [World.putObj_heap_other (by omega)]; exact hk2, hlive _ (Nat.le_refl _) (by omega)⟩
        · exact hD'.2 d hd
end
end Go.Abs
set_option linter.unusedSectionVars false
namespace Go.Abs
open Go Go.RowKit
variable [Toks]
variable {ds : List Deferred}

/-- a loop, by a number that falls -/
theorem wp_loop_n {P : Program} {c : Code} {Q : Exit → Act → World → Prop} (R : Nat → Act → World → Prop)
    (round : ∀ n a w, R n a w → c.wp P (Exit.then (fun a' w' => ∃ m, m < n ∧ R m a' w') Q) a w) {n : Nat} {a : Act} {w : World} (h : R n a w) : (Code.loop c).wp P Q a w := by
  intro b k cs
  have key : ∀ n a w, R n a w → ∃ e a' w', Q e a' w' ∧ Arrives P (lone (b.at a (.code c :: .inLoop c :: k)) cs w) b k cs e a' w' := by
    intro n
    induction n using Nat.strongRecOn with
    | _ n ih =>
      intro a w hI
      obtain ⟨e, a₁, w₁, hq, harr⟩ := round n a w hI b (.inLoop c :: k) cs
      cases e with
      | normal =>
        obtain ⟨m, hlt, hI₁⟩ := hq
        obtain ⟨e₂, a₂, w₂, hq₂, harr₂⟩ := ih m hlt a₁ w₁ hI₁
        exact ⟨e₂, a₂, w₂, hq₂, .of_steps (Steps.trans harr (.one step_inLoop)) harr₂⟩
      | exit id => exact ⟨_, a₁, w₁, hq, .pass (x := .inLoop c) rfl (fun _ _ => .inl (by simp)) harr⟩
      | goto l => exact ⟨_, a₁, w₁, hq, .pass (x := .inLoop c) rfl (fun _ _ => .inl (by simp)) harr⟩
      | ret => exact ⟨_, a₁, w₁, hq, .pass (x := .inLoop c) rfl (fun _ _ => .inl (by simp)) harr⟩
      | panic ch => exact ⟨_, a₁, w₁, hq, .pass (x := .inLoop c) rfl (fun _ _ => .inl (by simp)) harr⟩
      | outgrown => exact ⟨_, a₁, w₁, hq, .pass (x := .inLoop c) rfl (fun _ _ => .inl (by simp)) harr⟩
  obtain ⟨e, a', w', hq, harr⟩ := key n a w h
  exact ⟨e, a', w', hq, .of_steps (.one step_loop) harr⟩

def AX.exit' : AX → Exit
  | .norm => .normal
  | .ret => .ret
  | .exit id => .exit id

section
variable {C : Ctx} (ok : POK C) {call : CallF} (hcall : CallOK C call)

/-- what follows a piece of code -/
def After (C : Ctx) (N : Nat) (Φ : Ph) (s : AS) (w : World) (n : Nat) (x : AX) (fr' : Fr) (s' : AS) (Q : Exit → Act → World → Prop) : Prop :=
  ∀ a' w' Φ' ds', FR ds' Φ' fr' a' → DOK N Φ' s' w' ds' → fr'.n = n → Rel C Φ' s' w' → Stp Φ s w Φ' s' w' → Q x.exit' a' w'

include ok hcall in
theorem code_ok {N : Nat} : ∀ (c : Code) {ds : List Deferred} {Φ : Ph} {s : AS} {w : World} {fr : Fr} {a : Act} {x : AX} {fr' : Fr} {s' : AS} {Q : Exit → Act → World → Prop}, fr.n < 16000000 → N ≤ w.heap.size → Rel C Φ s w → FR ds Φ fr a → DOK N Φ s w ds → code C.E call c fr s = some (x, fr', s') →
    After C N Φ s w fr.n x fr' s' Q → c.wp C.P Q a w := by
  intro c
  induction c with
  | skip =>
    intro ds Φ s w fr a x fr' s' Q hn hN hR hF hD h hQ
    simp only [code, Option.some.injEq, Prod.mk.injEq] at h
    obtain ⟨rfl, rfl, rfl⟩ := h
    exact wp_skip (hQ a w Φ ds hF hD rfl hR (Stp.refl hR))
  | region id ops draw =>
    intro ds Φ s w fr a x fr' s' Q hn hN hR hF hD h hQ
    simp only [code] at h
    have hQ' : ∀ (fr1 : Fr) (s1 : AS), (x, fr', s') = (AX.norm, fr1, s1) → ∀ a' w' Φ', FR ds Φ' fr1 a' → fr1.n = fr.n → Rel C Φ' s1 w' → Stp Φ s w Φ' s1 w' → Q .normal a' w' := by
      intro fr1 s1 e a' w' Φ' h1 h2 h3 h4
      cases e
      exact hQ a' w' Φ' ds h1 (hD.step h4) h2 h3 h4
    cases draw with
    | true =>
      simp only [if_true] at h
      split at h
      · rename_i fr1 s1 hd
        simp only [Option.some.injEq] at h
        exact draw_ok ok hcall hn hR hF hd (hQ' fr1 s1 h.symm)
      · cases h
    | false =>
      simp only [Bool.false_eq_true, if_false] at h
      split at h
      · rename_i fr1 s1 hd
        simp only [Option.some.injEq] at h
        refine wp_region ?_
        have := seq_ok ok hcall (Q := Q) ops.toList 0 rfl hn hR hF hd (hQ' fr1 s1 h.symm)
        rw [List.range_eq_range']
        simpa using this
      · cases h
  | seq c1 c2 ih1 ih2 =>
    intro ds Φ s w fr a x fr' s' Q hn hN hR hF hD h hQ
    simp only [code] at h
    split at h
    · rename_i fr1 s1 h1
      refine wp_seq (ih1 hn hN hR hF hD h1 ?_)
      intro a1 w1 Φ1 ds1 g1 gd g2 g3 g4
      show (Exit.then _ Q) .normal a1 w1
      refine ih2 (by rw [g2]; exact hn) (Nat.le_trans hN g4.sz) g3 g1 gd h ?_
      intro a2 w2 Φ2 ds2 k1 kd k2 k3 k4
      exact hQ a2 w2 Φ2 ds2 k1 kd (by rw [k2, g2]) k3 (g4.trans k4)
    · rename_i hne
      refine wp_seq (ih1 hn hN hR hF hD h ?_)
      intro a1 w1 Φ1 ds1 g1 gd g2 g3 g4
      have := hQ a1 w1 Φ1 ds1 g1 gd g2 g3 g4
      cases x with
      | norm => exact (hne _ _ h).elim
      | ret => exact this
      | exit i => exact this
  | cond c c1 c2 ih1 ih2 =>
    intro ds Φ s w fr a x fr' s' Q hn hN hR hF hD h hQ
    simp only [code] at h
    split at h
    · rename_i hc
      exact wp_cond_true (hF.opd hc).bool_inv (ih1 hn hN hR hF hD h hQ)
    · rename_i hc
      exact wp_cond_false (hF.opd hc).bool_inv (ih2 hn hN hR hF hD h hQ)
    · cases h
  | block id c ih =>
    intro ds Φ s w fr a x fr' s' Q hn hN hR hF hD h hQ
    simp only [code] at h
    split at h
    · rename_i i fr1 s1 h1
      refine wp_block (ih hn hN hR hF hD h1 ?_)
      intro a1 w1 Φ1 ds1 g1 gd g2 g3 g4
      show (Exit.inBlock id Q) (.exit i) a1 w1
      unfold Exit.inBlock
      simp only
      split at h
      · rename_i hi
        cases h
        rw [if_pos (Nat.eq_of_beq_eq_true hi)]
        exact hQ a1 w1 Φ1 ds1 g1 gd g2 g3 g4
      · rename_i hi
        cases h
        rw [if_neg (fun e => hi (by rw [e]; exact Nat.beq_refl id))]
        exact hQ a1 w1 Φ1 ds1 g1 gd g2 g3 g4
    · rename_i hne
      refine wp_block (ih hn hN hR hF hD h ?_)
      intro a1 w1 Φ1 ds1 g1 gd g2 g3 g4
      have := hQ a1 w1 Φ1 ds1 g1 gd g2 g3 g4
      cases x with
      | norm => exact this
      | ret => exact this
      | exit i => exact (hne _ _ _ h).elim
  | loop c ih =>
    intro ds Φ s w fr a x fr' s' Q hn hN hR hF hD h hQ
    simp only [code] at h
    refine wp_loop_n (fun n a1 w1 => ∃ ds1 Φ1 s1 fr1, fr1.n = fr.n ∧ Rel C Φ1 s1 w1 ∧ FR ds1 Φ1 fr1 a1 ∧ DOK N Φ1 s1 w1 ds1 ∧ Stp Φ s w Φ1 s1 w1 ∧ loopN (code C.E call c) n fr1 s1 = some (x, fr', s')) ?_ (n := 100000) ⟨ds, Φ, s, fr, rfl, hR, hF, hD, Stp.refl hR, h⟩
    intro n a1 w1 ⟨ds1, Φ1, s1, fr1, g1, g2, g3, gd, g4, g5⟩
    cases n with
    | zero => simp [loopN] at g5
    | succ n =>
      simp only [loopN] at g5
      split at g5
      · rename_i fr2 s2 h2
        refine ih (by rw [g1]; exact hn) (Nat.le_trans hN g4.sz) g2 g3 gd h2 ?_
        intro a2 w2 Φ2 ds2 k1 kd k2 k3 k4
        exact ⟨n, by omega, ds2, Φ2, s2, fr2, by rw [k2, g1], k3, k1, kd, g4.trans k4, g5⟩
      · rename_i hne
        refine ih (by rw [g1]; exact hn) (Nat.le_trans hN g4.sz) g2 g3 gd g5 ?_
        intro a2 w2 Φ2 ds2 k1 kd k2 k3 k4
        have := hQ a2 w2 Φ2 ds2 k1 kd (by rw [k2, g1]) k3 (g4.trans k4)
        cases x with
        | norm => exact (hne _ _ g5).elim
        | ret => exact this
        | exit i => exact this
  | exit id =>
    intro ds Φ s w fr a x fr' s' Q hn hN hR hF hD h hQ
    simp only [code, Option.some.injEq, Prod.mk.injEq] at h
    obtain ⟨rfl, rfl, rfl⟩ := h
    exact wp_exit (hQ a w Φ ds hF hD rfl hR (Stp.refl hR))
  | ret =>
    intro ds Φ s w fr a x fr' s' Q hn hN hR hF hD h hQ
    simp only [code, Option.some.injEq, Prod.mk.injEq] at h
    obtain ⟨rfl, rfl, rfl⟩ := h
    exact wp_ret (hQ a w Φ ds hF hD rfl hR (Stp.refl hR))
  | rangeFunc g ps assign body =>
    intro ds Φ s w fr a x fr' s' Q hn hN hR hF hD h hQ
    simp only [code] at h
    split at h
    · rename_i f xs ys hg
      split at h
      · rename_i hx
        split at h
        · rename_i v s1 hc
          simp only [Option.some.injEq, Prod.mk.injEq] at h
          obtain ⟨rfl, rfl, rfl⟩ := h
          have hxs : xs = #[] := by apply Array.ext'; simpa using hx
          subst hxs
          exact range_zero ok hcall hR hF hD hN hg hc (fun a' w' Φ' ds' h1 h2 h3 h4 => hQ a' w' Φ' ds' h1 h2 rfl h3 h4)
        · cases h
      · cases h
    · cases h
  | scope => intro ds Φ s w fr a x fr' s' Q _ _ _ _ _ h; simp [code] at h
  | label => intro ds Φ s w fr a x fr' s' Q _ _ _ _ _ h; simp [code] at h
  | goto => intro ds Φ s w fr a x fr' s' Q _ _ _ _ _ h; simp [code] at h
  | refuse => intro ds Φ s w fr a x fr' s' Q _ _ _ _ _ h; simp [code] at h

/-! results -/
theorem run_mapL {P : Program} (g : ResultVar → Sem Value) {w : World} : ∀ {l : List ResultVar} {us : List Value}, l.length = us.length → (∀ (k : Nat) r u, l[k]? = some r → us[k]? = some u → (g r).run P w = .ok u w) → (l.mapM g).run P w = .ok us w := by
  intro l
  induction l with
  | nil => intro us hl _; cases us with | nil => rfl | cons _ _ => simp at hl
  | cons r l ih =>
    intro us hl h
    cases us with
    | nil => simp at hl
    | cons u us =>
      rw [List.mapM_cons]
      have h0 := h 0 r u rfl rfl
      have h1 := ih (us := us) (by simpa using hl) (fun k r u h1 h2 => h (k + 1) r u (by simpa using h1) (by simpa using h2))
      simp [h0, h1]

include ok in
theorem res_ok {Φ : Ph} {s : AS} {w : World} (hR : Rel C Φ s w) {fr : Fr} {a : Act} (hF : FR ds Φ fr a) : ∀ {l : List ResultVar} {vs : List Value}, resL C.E fr s l = some vs → ∃ us, VRs Φ vs us ∧ l.length = us.length ∧ ∀ (k : Nat) r u, l[k]? = some r → us[k]? = some u →
    ((match r with
      | .tmp t => pure (a.tmps.getD t undef)
      | .cell a' t => do loadVar t (← asAddr (a.tmps.getD a' undef)) : Sem Value)).run C.P w = .ok u w := by
  intro l
  induction l with
  | nil => intro vs h; simp only [resL, Option.some.injEq] at h; subst h; exact ⟨[], VRs.nil Φ, rfl, fun k r u h => by simp at h⟩
  | cons r l ih =>
    intro vs h
    cases r with
    | tmp t =>
      simp only [resL] at h
      split at h
      · rename_i vs' h1
        cases h
        obtain ⟨us, g1, g2, g3⟩ := ih h1
        refine ⟨a.tmps.getD t undef :: us, VRs.cons (hF.val t) g1, by simp [g2], fun k r u hr hu => ?_⟩
        cases k with
        | zero => simp at hr hu; subst hr; subst hu; simp
        | succ k => exact g3 k r u (by simpa using hr) (by simpa using hu)
      · cases h
    | cell c t =>
      simp only [resL] at h
      split at h
      · rename_i p hp
        split at h
        · rename_i v vs' h0 h1
          cases h
          obtain ⟨us, g1, g2, g3⟩ := ih h1
          have hv := hF.val c
          rw [hp] at hv
          obtain ⟨hsp, q, hq, hval⟩ := hv.ptr_inv
          obtain ⟨u0, r1, r2⟩ := loadV_ok ok hR h0 hq
          refine ⟨u0 :: us, VRs.cons r2 g1, by simp [g2], fun k r u hr hu => ?_⟩
          cases k with
          | zero =>
            simp at hr hu; subst hr; subst hu
            simp only [hval]
            simp [asAddr, r1]
          | succ k => exact g3 k r u (by simpa using hr) (by simpa using hu)
        · cases h
      · cases h

theorem tupled_ok {Φ : Ph} {vs us : List Value} (h : VRs Φ vs us) : VR Φ (tupled vs) (if h : (⟨us⟩ : Array Value).size = 1 then (⟨us⟩ : Array Value)[0] else .tuple ⟨us⟩) := by
  cases vs with
  | nil => cases h.nil_inv; exact .tuple [] [] rfl (fun k v v' h => by simp at h)
  | cons v vs =>
    obtain ⟨u, us', rfl, h1, h2⟩ := h.head
    cases vs with
    | nil => cases h2.nil_inv; simpa [tupled] using h1
    | cons v2 vs =>
      obtain ⟨u2, us2, rfl, h3, h4⟩ := h2.head
      have : ¬ (⟨u :: u2 :: us2⟩ : Array Value).size = 1 := by simp
      rw [dif_neg this]
      exact .tuple _ _ h.1 h.2

theorem init_frame {Φ : Ph} {n : Nat} {args us : List Value} (hn : n < 16000000) (hl : args.length ≤ n) (h : VRs Φ args us) :
    FR [] Φ { n, t := Tr.ofList args } { tmps := ⟨us⟩ ++ Array.replicate (n - (⟨us⟩ : Array Value).size) undef, defers := [] } := by
  refine ⟨by have := h.1; simp; omega, rfl, fun i => ?_⟩
  have hg : (Fr.get { n, t := Tr.ofList args } i) = (args[i]?).getD undef := by
    unfold Fr.get
    simp only
    cases ha : args[i]? with
    | none => rw [Tr.ofList_get_none (by omega) ha]
    | some x => rw [Tr.ofList_get (by omega) ha]
  rw [hg, Array.getD_eq_getD_getElem?]
  by_cases hi : i < us.length
  · have hi' : i < args.length := by rw [h.1]; exact hi
    rw [Array.getElem?_append_left (by simpa using hi)]
    rw [List.getElem?_eq_getElem hi', Option.getD_some]
    rw [show (⟨us⟩ : Array Value)[i]? = us[i]? by simp, List.getElem?_eq_getElem hi, Option.getD_some]
    exact h.2 i _ _ (List.getElem?_eq_getElem hi') (List.getElem?_eq_getElem hi)
  · rw [List.getElem?_eq_none (by rw [h.1]; omega)]
    rw [Array.getElem?_append_right (by simpa using hi)]
    have : ((Array.replicate (n - (⟨us⟩ : Array Value).size) undef)[i - (⟨us⟩ : Array Value).size]?).getD undef = undef := by
      rw [Array.getElem?_replicate]; split <;> rfl
    rw [this]
    exact .undef Φ

/-- the given functions tell the truth -/
def IntrOK (C : Ctx) : Prop := ∀ (f : FuncId) h, C.E.intr f = some h → ∀ (Φ : Ph) (s : AS) (w : World) (args us : List Value) (v : Value) (s' : AS), Rel C Φ s w → VRs Φ args us → h args s = some (v, s') →
    (∃ fn, C.P.funcs[f]? = some fn ∧ fn.body.isSome = true) ∧
    Calls C.P f ⟨us⟩ w (fun e w' => ∃ u Φ', e = .returned u ∧ VR Φ' v u ∧ Rel C Φ' s' w' ∧ Stp Φ s w Φ' s' w')

include ok in
theorem callStep_ok (hI : IntrOK C) (hcall : CallOK C call) : CallOK C (callStep C.E call) := by
  intro Φ s w f args us v s' hR hA h
  unfold callStep at h
  split at h
  · rename_i g hg
    exact hI f g hg Φ s w args us v s' hR hA h
  · split at h
    · rename_i fn hfn
      have hfn' := ok.hF f fn hfn
      split at h
      · rename_i c hc
        refine ⟨⟨fn, hfn', by rw [hc]; rfl⟩, ?_⟩
        split at h
        · rename_i hl
          have hsmall := ok.small f fn hfn'
          have hF := init_frame hsmall hl hA
          rw [← callsIn_wide (n := 1)]
          refine callsIn_of_wp_marks (F := Fence.wide) (n := 1) hfn' hc trivial (wpIn_wide.2 ?_)
          have post : ∀ (x : AX) (fr' : Fr) (s1 : AS) (l : List Value), (x = .norm ∨ x = .ret) → resL C.E fr' s1 fn.results.toList = some l → (v, s') = (tupled l, s1) →
              After C w.heap.size Φ s w fn.ntmps x fr' s1 (bodyPostM Fence.wide 1 C.P fn (fun e w' => ∃ u Φ', e = .returned u ∧ VR Φ' v u ∧ Rel C Φ' s' w' ∧ Stp Φ s w Φ' s' w')) := by
            intro x fr' s1 l hx hl hv a' w' Φ' ds' g1 gd g2 g3 g4
            cases hv
            have hleave : LeavesInM Fence.wide 1 C.P fn a'.tmps (fun e w' => ∃ u Φ', e = .returned u ∧ VR Φ' (tupled l) u ∧ Rel C Φ' s' w' ∧ Stp Φ s w Φ' s' w') ds' .returning w' := by
              refine leaves_of (C := C) (Φ := Φ') (s := s') (Φ0 := Φ) (s0 := s) (w0 := w) hR.base (fun w2 q3 q4 => ?_) ds' w' g3 g4 gd
              obtain ⟨us', k1, k2, k3⟩ := res_ok ok q3 g1 hl
              have hr : (results fn a'.tmps).run C.P w2 = .ok (if h : (⟨us'⟩ : Array Value).size = 1 then (⟨us'⟩ : Array Value)[0] else .tuple ⟨us'⟩) w2 := by
                unfold results
                rw [Array.mapM_eq_mapM_toList]
                simp only [map_eq_pure_bind, Sem.run_bind]
                rw [run_mapL (P := C.P) _ k2 (fun k r u h1 h2 => (by have := k3 k r u h1 h2; cases r <;> exact this))]
                rfl
              exact ⟨_, hr, _, Φ', rfl, tupled_ok k1, q3, q4⟩
            have he := g1.defers
            rcases hx with rfl | rfl <;> (show LeavesInM _ _ _ _ _ _ a'.defers _ _; rw [he]; exact hleave)
          split at h
          · rename_i fr' s1 hcd
            split at h
            · rename_i l hl2
              simp only [Option.some.injEq] at h
              exact code_ok ok hcall c hsmall (Nat.le_refl _) hR hF (DOK.nil _ _ _ _) hcd (post .norm fr' s1 l (.inl rfl) hl2 h.symm)
            · cases h
          · rename_i fr' s1 hcd
            split at h
            · rename_i l hl2
              simp only [Option.some.injEq] at h
              exact code_ok ok hcall c hsmall (Nat.le_refl _) hR hF (DOK.nil _ _ _ _) hcd (post .ret fr' s1 l (.inr rfl) hl2 h.symm)
            · cases h
          · cases h
        · cases h
      · cases h
    · cases h

include ok in
theorem run_ok (hI : IntrOK C) : ∀ n, CallOK C (run C.E n) := by
  intro n
  induction n with
  | zero => intro Φ s w f args us v s' _ _ h; simp [run] at h
  | succ n ih => exact callStep_ok ok hI ih
end
end Go.Abs
namespace Go.Abs
open Go
noncomputable section

/-! what the library's and some of the program's functions answer, by hand -/
abbrev Hd := List Value → AS → Option (Value × AS)
def i64 (n : Nat) : Value := .int .i64 n

/-- one byte's eight rounds -/
def crcBits : Nat → Nat → Nat
  | 0, r => r
  | n + 1, r => crcBits n (Nat.xor (r / 2) (2197175160 * (r % 2)))
def crcFrom : Nat → Nat → List Value
  | 0, _ => []
  | n + 1, i => .int .u32 ((crcBits 8 i : Nat) : Int) :: crcFrom n (i + 1)
def crcTab : List Value := crcFrom 256 0
/-- sum.Make: its table, in a new block -/
def hMake (e : TypeId) : Hd
  | [], s => (match s.new (.cells e crcTab false 0 0) with
    | some (i, s') => some (ptr i 0, s')
    | none => none)
  | _, _ => none
def crcStep (r b : Nat) : Nat := Nat.xor (r / 256) (crcBits 8 (Nat.xor (r % 256) b))
def crcRun : List UInt8 → Nat → Nat
  | [], r => r
  | b :: l, r => crcRun l (crcStep r b.toNat)
def crcOn (c : Nat) (l : List UInt8) : Nat := Nat.xor (crcRun l (Nat.xor c 4294967295)) 4294967295
def crcIs : List Value → Nat → Bool
  | [], i => Nat.beq i 256
  | .int .u32 (.ofNat x) :: l, i => Nat.beq x (crcBits 8 i) && crcIs l (i + 1)
  | _, _ => false
def hOn (tab : TypeId) : Hd
  | [.pointer (some a), .int .u32 (.ofNat c), .string b], s => (match s.heap.get a.block with
    | some (.cells e vs false 0 0) => if Nat.beq a.off 0 && Nat.blt c 4294967296 && Nat.ble b.data.toList.length 1000000000 && crcIs vs 0 then some (.int .u32 ((crcOn c b.data.toList : Nat) : Int), s) else none
    | _ => none)
  | _, _ => none
def repL : Nat → List UInt8 → List UInt8
  | 0, _ => []
  | n + 1, l => l ++ repL n l
def hRepeat : Hd
  | [.string b, .int .i64 (.ofNat n)], s => if b.data.toList.length * n ≤ 100000000 && n ≤ 100000000 then some (mkStr (repL n b.data.toList), s) else none
  | _, _ => none
def decL : Nat → Nat → List UInt8 → List UInt8
  | 0, _, acc => acc
  | f + 1, n, acc => if n < 10 then UInt8.ofNat (48 + n) :: acc else decL f (n / 10) (UInt8.ofNat (48 + n % 10) :: acc)
def hItoa : Hd
  | [.int .i64 (.ofNat n)], s => if n < 1000000000000000000 then some (mkStr (decL 25 n []), s) else none
  | _, _ => none
def hFormat : Hd
  | [.int .u64 (.ofNat n), .int .i64 (.ofNat 10)], s => if n < 1000000000000000000 then some (mkStr (decL 25 n []), s) else none
  | _, _ => none
def lastAt (b : Int) : List Value → Nat → Option Nat → Option (Option Nat)
  | [], _, r => some r
  | .int .i64 x :: l, k, r => lastAt b l (k + 1) (if x = b then some k else r)
  | _, _, _ => none
def hAt : Hd
  | [.agg cs, .int .i64 b], s => (match cs.toList with
    | [.int .i64 n, .int _ _, mv] =>
      if 0 ≤ b && b < n then
        (match mv with
        | .slice none 0 0 => some (.tuple ⟨[.int .i64 b, i64 0]⟩, s)
        | .slice (some a) len _ => (match loadC s a.block a.off len with
          | some l => (match lastAt b l 0 none with
            | some (some k) => some (.tuple ⟨[.int .i64 (n + k), i64 0]⟩, s)
            | some none => some (.tuple ⟨[.int .i64 b, i64 0]⟩, s)
            | none => none)
          | none => none)
        | _ => none)
      else some (.tuple ⟨[i64 0, i64 3]⟩, s)
    | _ => none)
  | _, _ => none
def lastW (i : Int) : List Value → Option Value → Option (Option Value)
  | [], r => some r
  | .int .i64 x :: .string v :: l, r => lastW i l (if x = i then some (.string v) else r)
  | _, _ => none
def hRead : Hd
  | [.pointer (some d), .int .i64 i], s => if !(Nat.beq d.off 0) then none else (match s.heap.get d.block with
    | some (.cells e [a0, a1, media, bad, cache, fuse, lose, stray, strays, .bool off, .bool gone, .int .i64 c0, c1, c2] o lo hi) =>
      if off then some (.tuple ⟨[mkStr [], i64 6]⟩, s)
      else if gone then some (.tuple ⟨[mkStr [], i64 8]⟩, s)
      else (match media, bad with
        | .slice (some m) ml _, .slice (some bb) _ _ =>
          if !(0 ≤ i && i < (ml : Int)) then some (.tuple ⟨[mkStr [], i64 3]⟩, s)
          else (match loadC s bb.block (bb.off + i.toNat) 1 with
            | some [.bool true] => some (.tuple ⟨[mkStr [], i64 7]⟩, s)
            | some [.bool false] =>
              let s' := s.put d.block (.cells e [a0, a1, media, bad, cache, fuse, lose, stray, strays, .bool off, .bool gone, .int .i64 (IntKind.i64.wrap (c0 + 1)), c1, c2] o lo hi)
              (match (match cache with
                | .slice none 0 0 => some none
                | .slice (some c) n _ => (match loadC s c.block c.off (2 * n) with
                  | some l => lastW i l none
                  | none => none)
                | _ => none) with
              | some (some v) => some (.tuple ⟨[v, i64 0]⟩, s')
              | some none => (match loadC s m.block (m.off + i.toNat) 1 with
                | some [.string v] => some (.tuple ⟨[.string v, i64 0]⟩, s')
                | _ => none)
              | none => none)
            | _ => none)
        | _, _ => none)
    | _ => none)
  | _, _ => none
def insI (x : Int) : List Int → List Int
  | [] => [x]
  | y :: l => if x ≤ y then x :: y :: l else y :: insI x l
def sortI : List Int → List Int
  | [] => []
  | x :: l => insI x (sortI l)
def intsOf : List Value → Option (List Int)
  | [] => some []
  | .int .i64 x :: l => (match intsOf l with | some r => some (x :: r) | none => none)
  | _ => none
def keysOf : List (Value × Value) → Option (List Int)
  | [] => some []
  | (.int .i64 x, _) :: l => (match keysOf l with | some r => some (x :: r) | none => none)
  | _ => none
/-- slices.Sorted over slices.Values (the function gv) or maps.Keys (gk) -/
def hSorted (gv gk : Nat) : Hd
  | [.func (.func g) _ cap], s => (match cap.toList with
    | [.pointer (some p)] =>
      (match (match loadC s p.block p.off 1 with
        | some [.slice none 0 0] => if Nat.beq g gv then some [] else none
        | some [.slice (some a) n _] => if Nat.beq g gv then (match loadC s a.block a.off n with | some l => intsOf l | none => none) else none
        | some [.map none] => if Nat.beq g gk then some [] else none
        | some [.map (some r)] => if Nat.beq g gk then (match s.heap.get r with | some (.map es _) => keysOf es | _ => none) else none
        | _ => none) with
      | some [] => some (.slice none 0 0, s)
      | some l => (match s.new (.cells 3 ((sortI l).map fun n => .int .i64 n) true 0 0) with
        | some (i, s') => some (.slice (some ⟨i, 0, none⟩) l.length (2 * l.length + 1), s')
        | none => none)
      | none => none)
    | _ => none)
  | _, _ => none
/-- slices.SortedFunc over maps.Keys of an empty map -/
def hSortedF (gk : Nat) : Hd
  | [.func (.func g) _ cap, _], s => (match cap.toList with
    | [.pointer (some p)] => if Nat.beq g gk then
        (match loadC s p.block p.off 1 with
        | some [.map none] => some (.slice none 0 0, s)
        | some [.map (some r)] => (match s.heap.get r with | some (.map [] _) => some (.slice none 0 0, s) | _ => none)
        | _ => none)
      else none
    | _ => none)
  | _, _ => none
def tz : Nat → Nat → Nat
  | 0, _ => 0
  | f + 1, n => if n % 2 = 1 then 0 else 1 + tz f (n / 2)
def hTz : Hd
  | [.int .u64 (.ofNat n)], s => some (i64 (if n = 0 then 64 else tz 64 n), s)
  | _, _ => none
def hIndexByte : Hd
  | [.string b, .int .u8 (.ofNat c)], s => (match b.data.toList.findIdx? (fun x => x.toNat = c) with
    | some i => some (i64 i, s)
    | none => some (.int .i64 (-1), s))
  | _, _ => none
def hCopyCheck : Hd
  | [.pointer (some a)], s => (match loadC s a.block a.off 1 with
    | some [.pointer none] => (match storeC s a.block a.off [.pointer (some a)] with | some s' => some (undef, s') | none => none)
    | some [.pointer (some b)] => if Nat.beq a.block b.block && Nat.beq a.off b.off then some (undef, s) else none
    | _ => none)
  | _, _ => none
def bytesOf : List Value → Option (List UInt8)
  | [] => some []
  | .int .u8 (.ofNat x) :: l => (match bytesOf l with | some r => some (UInt8.ofNat x :: r) | none => none)
  | _ => none
def hBString : Hd
  | [.pointer (some a)], s => (match loadC s a.block (a.off + 1) 1 with
    | some [.slice none 0 0] => some (mkStr [], s)
    | some [.slice (some b) n _] => (match s.heap.get b.block with
      | some (.cells e vs o lo hi) => if Nat.beq b.off 0 && Nat.beq lo 0 then
          (match bytesOf (vs.take n) with
          | some l => if l.length = n then some (mkStr l, s.put b.block (.cells e vs o 0 (max hi n))) else none
          | none => none)
        else none
      | _ => none)
    | _ => none)
  | _, _ => none
def hBGrow (e : TypeId) : Hd
  | [.pointer (some a), .int .i64 (.ofNat _)], s => (match loadC s a.block (a.off + 1) 1 with
    | some [.slice none 0 0] => (match s.new (.cells e [] true 0 0) with
      | some (i, s') => (match storeC s' a.block (a.off + 1) [.slice (some ⟨i, 0, none⟩) 0 1] with | some s'' => some (undef, s'') | none => none)
      | none => none)
    | _ => none)
  | _, _ => none

structure Ids where
  make : Nat
  on : Nat
  rep : Nat
  itoa : Nat
  format : Nat
  at' : Nat
  read : Nat
  sorted : Nat
  sortedF : Nat
  values : Nat
  keysI : Nat
  keysP : Nat
  tzz : Nat
  tz64 : Nat
  index : Nat
  check : Nat
  str : Nat
  grow : Nat
  u8 : Nat
  tab : Nat
def handlers (d : Ids) : Tr Hd :=
  ((((((((((((((Tr.nil.set d.make (some (hMake d.tab))).set d.on (some (hOn d.tab))).set d.rep (some hRepeat)).set d.itoa (some hItoa)).set d.format (some hFormat)).set d.at' (some hAt)).set d.read (some hRead)).set d.sorted (some (hSorted d.values d.keysI))).set d.sortedF
    (some (hSortedF d.keysP))).set d.tzz (some hTz)).set d.tz64 (some hTz)).set d.index (some hIndexByte)).set d.check (some hCopyCheck)).set d.str (some hBString)).set d.grow (some (hBGrow d.u8))
end
end Go.Abs
set_option linter.unusedSectionVars false
namespace Go.Abs
open Go Go.RowKit
variable [Toks]

noncomputable section
/-! a run cut into pieces: recorded calls -/
def lEq (f : Value → Value → Bool) : List Value → List Value → Bool
  | [], [] => true
  | a :: x, b :: y => f a b && lEq f x y
  | _, _ => false
def adEq : Option Addr → Option Addr → Bool
  | none, none => true
  | some ⟨a, b, none⟩, some ⟨c, d, none⟩ => Nat.beq a c && Nat.beq b d
  | _, _ => false
def vEq : Nat → Value → Value → Bool
  | 0, _, _ => false
  | n + 1, .iface t a, .iface u b => Nat.beq t u && vEq n a b
  | n + 1, .agg x, .agg y => lEq (vEq n) x.toList y.toList
  | n + 1, .tuple x, .tuple y => lEq (vEq n) x.toList y.toList
  | n + 1, .func (.func f) x x', .func (.func g) y y' => Nat.beq f g && lEq (vEq n) x.toList y.toList && lEq (vEq n) x'.toList y'.toList
  | _ + 1, .pointer a, .pointer b => adEq a b
  | _ + 1, .slice a n c, .slice b m d => adEq a b && Nat.beq n m && Nat.beq c d
  | _ + 1, a, b => veq.flatEq a b
def esEq : List (Value × Value) → List (Value × Value) → Bool
  | [], [] => true
  | (a, b) :: x, (c, d) :: y => vEq 3 a c && vEq 3 b d && esEq x y
  | _, _ => false
def bEq : Bool → Bool → Bool
  | true, true => true
  | false, false => true
  | _, _ => false
def oEq : AObj → AObj → Bool
  | .cells e vs o lo hi, .cells e' vs' o' lo' hi' => Nat.beq e e' && bEq o o' && Nat.beq lo lo' && Nat.beq hi hi' && lEq (vEq 4) vs vs'
  | .map es v, .map es' v' => Nat.beq v v' && esEq es es'
  | _, _ => false

def rp : Nat → Value → List Value
  | 0, _ => []
  | n + 1, v => v :: rp n v
def rb : Nat → UInt8 → List UInt8 → List UInt8
  | 0, _, l => l
  | n + 1, b, l => b :: rb n b l
def rl : List (Nat × Nat) → List UInt8
  | [] => []
  | (n, b) :: l => rb n (UInt8.ofNat b) (rl l)

structure Cut where
  f : FuncId
  args : List Value
  pre : List (Nat × AObj)
  pn : Nat
  v : Value
  post : List (Nat × AObj)
  qn : Nat

def stOf (l : List (Nat × AObj)) (n : Nat) : AS := { heap := go l .nil, next := n }
where
  go : List (Nat × AObj) → Tr AObj → Tr AObj
  | [], t => t
  | (i, o) :: l, t => go l (t.set i (some o))
def hasAll (s : AS) : List (Nat × AObj) → Bool
  | [] => true
  | (i, o) :: l => (match s.heap.get i with | some o' => oEq o' o | none => false) && Nat.blt i 16000000 && hasAll s l
def hCut (c : Cut) : Hd := fun args s =>
  if lEq (vEq 4) args c.args && hasAll s c.pre && Nat.ble s.next c.pn && Nat.ble c.pn 1000000 then some (c.v, stOf c.post c.qn) else none
def chkCut (E : Env) (n : Nat) (c : Cut) : Bool :=
  match run E n c.f c.args (stOf c.pre c.pn) with
  | some (v, s) => vEq 4 v c.v && hasAll s c.post && Nat.ble s.next c.qn && Nat.ble c.qn 1000000
  | none => false
end

theorem lEq_eq {f : Value → Value → Bool} (hf : ∀ a b, f a b = true → a = b) : ∀ {x y : List Value}, lEq f x y = true → x = y := by
  intro x
  induction x with
  | nil => intro y h; cases y with | nil => rfl | cons _ _ => simp [lEq] at h
  | cons a x ih =>
    intro y h
    cases y with
    | nil => simp [lEq] at h
    | cons b y =>
      simp only [lEq, Bool.and_eq_true] at h
      rw [hf _ _ h.1, ih h.2]
theorem adEq_eq {a b : Option Addr} (h : adEq a b = true) : a = b := by
  unfold adEq at h
  split at h
  · rfl
  · simp only [Bool.and_eq_true] at h
    rw [Nat.eq_of_beq_eq_true h.1, Nat.eq_of_beq_eq_true h.2]
  · cases h
theorem vEq_eq : ∀ (n : Nat) (a b : Value), vEq n a b = true → a = b := by
  intro n
  induction n with
  | zero => intro a b h; simp [vEq] at h
  | succ n ih =>
    intro a b h
    have far : ∀ a b, veq.flatEq a b = true → a = b := fun a b h => flatEq_eq h
    cases a <;> cases b <;> first
      | exact far _ _ (by simpa only [vEq] using h)
      | skip
    case func.func fn x x' fn' y y' =>
      cases fn <;> cases fn' <;> first
        | exact far _ _ (by simpa only [vEq] using h)
        | skip
      simp only [vEq, Bool.and_eq_true] at h
      rw [Nat.eq_of_beq_eq_true h.1.1, arr_eq (lEq_eq ih h.1.2), arr_eq (lEq_eq ih h.2)]
    case pointer.pointer => simp only [vEq] at h; rw [adEq_eq h]
    case slice.slice =>
      simp only [vEq, Bool.and_eq_true] at h
      rw [adEq_eq h.1.1, Nat.eq_of_beq_eq_true h.1.2, Nat.eq_of_beq_eq_true h.2]
    case agg.agg => simp only [vEq] at h; rw [arr_eq (lEq_eq ih h)]
    case tuple.tuple => simp only [vEq] at h; rw [arr_eq (lEq_eq ih h)]
    case iface.iface =>
      simp only [vEq, Bool.and_eq_true] at h
      rw [Nat.eq_of_beq_eq_true h.1, ih _ _ h.2]
theorem esEq_eq : ∀ {x y : List (Value × Value)}, esEq x y = true → x = y := by
  intro x
  induction x with
  | nil => intro y h; cases y with | nil => rfl | cons _ _ => simp [esEq] at h
  | cons a x ih =>
    intro y h
    obtain ⟨a, b⟩ := a
    cases y with
    | nil => simp [esEq] at h
    | cons c y =>
      obtain ⟨c, d⟩ := c
      simp only [esEq, Bool.and_eq_true] at h
      rw [vEq_eq _ _ _ h.1.1, vEq_eq _ _ _ h.1.2, ih h.2]
theorem bEq_eq {a b : Bool} (h : bEq a b = true) : a = b := by cases a <;> cases b <;> first | rfl | (simp [bEq] at h)
theorem oEq_eq {a b : AObj} (h : oEq a b = true) : a = b := by
  cases a <;> cases b <;> simp only [oEq, Bool.and_eq_true, Bool.false_eq_true] at h
  · obtain ⟨⟨⟨⟨h1, h2⟩, h3⟩, h4⟩, h5⟩ := h
    rw [Nat.eq_of_beq_eq_true h1, bEq_eq h2, Nat.eq_of_beq_eq_true h3, Nat.eq_of_beq_eq_true h4, lEq_eq (vEq_eq 4) h5]
  · obtain ⟨h1, h2⟩ := h
    rw [Nat.eq_of_beq_eq_true h1, esEq_eq h2]

theorem go_get {s : AS} : ∀ {l : List (Nat × AObj)} {t : Tr AObj}, hasAll s l = true → (∀ i o, t.get i = some o → s.heap.get i = some o) → ∀ i o, (stOf.go l t).get i = some o → s.heap.get i = some o := by
  intro l
  induction l with
  | nil => intro t _ ht i o h; exact ht i o h
  | cons x l ih =>
    intro t hl ht i o h
    obtain ⟨k, ob⟩ := x
    simp only [hasAll, Bool.and_eq_true] at hl
    obtain ⟨⟨h1, h2⟩, h3⟩ := hl
    refine ih h3 (fun j o' hj => ?_) i o h
    by_cases e : j = k
    · subst e
      rw [Tr.get_set _ _ _ (blt_lt h2)] at hj
      cases hj
      split at h1
      · rename_i o2 ho2; rw [ho2, oEq_eq h1]
      · cases h1
    · rw [Tr.get_set_ne _ _ _ _ e] at hj; exact ht j o' hj
theorem stOf_get {s : AS} {l : List (Nat × AObj)} {n : Nat} (h : hasAll s l = true) (i : Nat) (o : AObj) (hi : (stOf l n).heap.get i = some o) : s.heap.get i = some o := by
  refine go_get h (t := .nil) (fun j o' hj => ?_) i o hi
  rw [Tr.get_nil] at hj; cases hj

section
variable {C : Ctx} {Φ : Ph} {s t : AS} {w : World}
/-- less may be known -/
theorem Rel.weak (h : Rel C Φ s w) (hg : ∀ i o, t.heap.get i = some o → s.heap.get i = some o) (hn : s.next ≤ t.next) (hm : t.next ≤ 1000000) : Rel C Φ t w ∧ Stp Φ s w Φ t w := by
  refine ⟨⟨h.below, fun i p hp => Nat.lt_of_lt_of_le (h.fresh i p hp) hn, h.lt, fun i j o o' p q a b => h.inj i j o o' p q (hg i o a) (hg j o' b), fun i o hi => h.obj i o (hg i o hi), hm⟩,
    ⟨Ext.refl _, hn, fun _ _ a _ => a, Nat.le_refl _, fun _ _ _ => rfl, fun i o p a b => .inr ⟨i, o, p, hg i o a, b, rfl⟩, fun i o _ a => ⟨o, hg i o a⟩⟩⟩

/-- the relation does not look at what the evaluator is given -/
theorem OR.env {C' : Ctx} (hP : C'.P = C.P) (hc : C'.crc = C.crc) {p : Pl} {o : AObj} {c : Obj} (h : OR C Φ p o c) : OR C' Φ p o c := by
  cases o with
  | cells e vs opn lo hi =>
    cases c <;> simp only [OR] at h ⊢
    rw [hP]; exact h
  | map es ver => cases c <;> simp only [OR] at h ⊢; exact h
  | iter m ver k =>
    cases m with
    | none =>
      cases c <;> simp only [OR] at h ⊢
      rename_i mm _ _ _
      cases mm <;> simp only [OR] at h ⊢
    | some m =>
      cases c <;> simp only [OR] at h ⊢
      rename_i mm _ _ _
      cases mm <;> simp only [OR] at h ⊢
      exact h
  | crc => simp only [OR] at h ⊢; rw [hc]; exact h
theorem Rel.env {E : Env} (h : Rel C Φ s w) : Rel { C with E } Φ s w :=
  ⟨h.below, h.fresh, h.lt, h.inj, fun i o hi => let ⟨p, c, a, b, d⟩ := h.obj i o hi; ⟨p, c, a, b, d.env rfl rfl⟩, h.room⟩
theorem Rel.unenv {E : Env} (h : Rel { C with E } Φ s w) : Rel C Φ s w :=
  ⟨h.below, h.fresh, h.lt, h.inj, fun i o hi => let ⟨p, c, a, b, d⟩ := h.obj i o hi; ⟨p, c, a, b, OR.env (C := { C with E }) (C' := C) rfl rfl d⟩, h.room⟩

/-- a handler that tells the truth -/
def HdOK (C : Ctx) (f : FuncId) (h : Hd) : Prop := ∀ (Φ : Ph) (s : AS) (w : World) (args us : List Value) (v : Value) (s' : AS), Rel C Φ s w → VRs Φ args us → h args s = some (v, s') →
    (∃ fn, C.P.funcs[f]? = some fn ∧ fn.body.isSome = true) ∧
    Calls C.P f ⟨us⟩ w (fun e w' => ∃ u Φ', e = .returned u ∧ VR Φ' v u ∧ Rel C Φ' s' w' ∧ Stp Φ s w Φ' s' w')
theorem HdOK.env {E : Env} {f : FuncId} {h : Hd} (k : HdOK { C with E } f h) : HdOK C f h := by
  intro Φ s w args us v s' hR hA hh
  obtain ⟨a, b⟩ := k Φ s w args us v s' hR.env hA hh
  exact ⟨a, b.mono fun e w' ⟨u, Φ', h1, h2, h3, h4⟩ => ⟨u, Φ', h1, h2, h3.unenv, h4⟩⟩

theorem cut_ok (ok : POK C) (hI : IntrOK C) {n : Nat} {c : Cut} (h : chkCut C.E n c = true) : HdOK C c.f (hCut c) := by
  intro Φ s w args us v s' hR hA hh
  unfold hCut at hh
  split at hh
  · rename_i hc
    simp only [Bool.and_eq_true] at hc
    obtain ⟨⟨⟨c1, c2⟩, c3⟩, c4⟩ := hc
    simp only [Option.some.injEq, Prod.mk.injEq] at hh
    obtain ⟨rfl, rfl⟩ := hh
    have e1 : args = c.args := lEq_eq (vEq_eq 4) c1
    subst e1
    have c3' := Nat.le_of_ble_eq_true c3
    have c4' := Nat.le_of_ble_eq_true c4
    obtain ⟨hR1, hS1⟩ := hR.weak (t := stOf c.pre c.pn) (fun i o hi => stOf_get c2 i o hi) c3' c4'
    unfold chkCut at h
    split at h
    · rename_i v1 s1 hrun
      simp only [Bool.and_eq_true] at h
      obtain ⟨⟨⟨d1, d2⟩, d3⟩, d4⟩ := h
      have e2 := vEq_eq 4 _ _ d1
      subst e2
      obtain ⟨g1, g2⟩ := run_ok ok hI n Φ _ w c.f _ us _ s1 hR1 hA hrun
      refine ⟨g1, g2.mono fun e w' ⟨u, Φ', h1, h2, h3, h4⟩ => ?_⟩
      obtain ⟨hR2, hS2⟩ := h3.weak (t := stOf c.post c.qn) (fun i o hi => stOf_get d2 i o hi) (Nat.le_of_ble_eq_true d3) (Nat.le_of_ble_eq_true d4)
      exact ⟨u, Φ', h1, h2, hR2, hS1.trans (h4.trans hS2)⟩
    · cases h
  · cases hh
end
end Go.Abs
namespace Go.Abs
open Go
theorem bits_xor_u32 {x y : Nat} (hx : x < 4294967296) (hy : y < 4294967296) : bits BinOp.xor IntKind.u32 (x : Int) (y : Int) = ((x ^^^ y : Nat) : Int) := by
  have h : x ^^^ y < 4294967296 := Nat.xor_lt_two_pow (n := 32) hx hy
  have e : (BitVec.ofInt 32 (x : Int) ^^^ BitVec.ofInt 32 (y : Int)).toNat = x ^^^ y := by
    rw [BitVec.toNat_xor, BitVec.toNat_ofInt, BitVec.toNat_ofInt]
    congr 1 <;> (simp; omega)
  show IntKind.u32.wrap ((BitVec.ofInt 32 (x : Int) ^^^ BitVec.ofInt 32 (y : Int)).toNat : Int) = _
  rw [e]
  simp [IntKind.wrap, IntKind.bits, IntKind.signed]
  omega
theorem bits_xor_u8 {x y : Nat} (hx : x < 256) (hy : y < 256) : bits BinOp.xor IntKind.u8 (x : Int) (y : Int) = ((x ^^^ y : Nat) : Int) := by
  have h : x ^^^ y < 256 := Nat.xor_lt_two_pow (n := 8) hx hy
  have e : (BitVec.ofInt 8 (x : Int) ^^^ BitVec.ofInt 8 (y : Int)).toNat = x ^^^ y := by
    rw [BitVec.toNat_xor, BitVec.toNat_ofInt, BitVec.toNat_ofInt]
    congr 1 <;> (simp; omega)
  show IntKind.u8.wrap ((BitVec.ofInt 8 (x : Int) ^^^ BitVec.ofInt 8 (y : Int)).toNat : Int) = _
  rw [e]
  simp [IntKind.wrap, IntKind.bits, IntKind.signed]
  omega
theorem crcBits_lt : ∀ (n r : Nat), r < 4294967296 → crcBits n r < 4294967296 := by
  intro n
  induction n with
  | zero => intro r h; exact h
  | succ n ih =>
    intro r h
    simp only [crcBits]
    refine ih _ (Nat.xor_lt_two_pow (n := 32) (by omega) ?_)
    have : r % 2 < 2 := Nat.mod_lt _ (by omega)
    have : r % 2 = 0 ∨ r % 2 = 1 := by omega
    rcases this with h | h <;> rw [h] <;> decide
theorem crcStep_lt {r b : Nat} (hr : r < 4294967296) (hb : b < 256) : crcStep r b < 4294967296 := by
  have h : r % 256 ^^^ b < 256 := Nat.xor_lt_two_pow (n := 8) (by omega) hb
  exact Nat.xor_lt_two_pow (n := 32) (by omega) (crcBits_lt 8 _ (by show (r % 256 ^^^ b) < _; omega))
theorem crcRun_lt : ∀ (l : List UInt8) (r : Nat), r < 4294967296 → crcRun l r < 4294967296 := by
  intro l
  induction l with
  | nil => intro r h; exact h
  | cons b l ih => intro r h; exact ih _ (crcStep_lt h b.toNat_lt)
theorem crcRun_snoc : ∀ (l : List UInt8) (b : UInt8) (r : Nat), crcRun (l ++ [b]) r = crcStep (crcRun l r) b.toNat := by
  intro l
  induction l with
  | nil => intro b r; rfl
  | cons a l ih => intro b r; simp only [List.cons_append, crcRun]; exact ih b _
end Go.Abs
namespace Go.Lib
def decVal (l : List UInt8) : Nat := l.foldl (fun a b => 10 * a + (b.toNat - 48)) 0
theorem decVal_digits : ∀ u : Nat, decVal (decDigits u) = u := by
  intro u
  induction u using Nat.strongRecOn with
  | _ u ih =>
    by_cases h : u < 10
    · rw [decDigits_one h]
      simp only [decVal, List.foldl_cons, List.foldl_nil]
      have : (UInt8.ofNat (48 + u)).toNat = 48 + u := by simp; omega
      rw [this]; omega
    · rw [decDigits, dif_neg h]
      have h1 := ih (u / 10) (by omega)
      unfold decVal at h1 ⊢
      rw [List.foldl_append, h1]
      simp only [List.foldl_cons, List.foldl_nil]
      have : (UInt8.ofNat (48 + u % 10)).toNat = 48 + u % 10 := by simp; omega
      rw [this]; omega
theorem decDigits_ge : ∀ (u : Nat) (b : UInt8), b ∈ decDigits u → 48 ≤ b.toNat := by
  intro u
  induction u using Nat.strongRecOn with
  | _ u ih =>
    intro b hb
    by_cases h : u < 10
    · rw [decDigits_one h] at hb
      simp only [List.mem_singleton] at hb
      subst hb
      simp; omega
    · rw [decDigits, dif_neg h] at hb
      rcases List.mem_append.1 hb with hb | hb
      · exact ih (u / 10) (by omega) b hb
      · simp only [List.mem_singleton] at hb
        subst hb
        simp; omega
theorem itoa_inj {a b : Int} (h : itoa a = itoa b) : a = b := by
  have neg : ∀ (u v : Nat), 1 ≤ u → itoa (-(u : Int)) = itoa (v : Int) → False := by
    intro u v hu e
    rw [itoa_neg u hu, itoa_nonneg] at e
    have := decDigits_ge v 45 (by rw [← e]; simp)
    simp at this
  by_cases ha : a < 0
  · obtain ⟨u, rfl⟩ : ∃ u : Nat, a = -(u : Int) := ⟨a.natAbs, by omega⟩
    by_cases hb : b < 0
    · obtain ⟨v, rfl⟩ : ∃ v : Nat, b = -(v : Int) := ⟨b.natAbs, by omega⟩
      rw [itoa_neg u (by omega), itoa_neg v (by omega)] at h
      have := congrArg decVal (List.cons.inj h).2
      rw [decVal_digits, decVal_digits] at this
      omega
    · obtain ⟨v, rfl⟩ : ∃ v : Nat, b = v := ⟨b.toNat, by omega⟩
      exact (neg u v (by omega) h).elim
  · obtain ⟨u, rfl⟩ : ∃ u : Nat, a = u := ⟨a.toNat, by omega⟩
    by_cases hb : b < 0
    · obtain ⟨v, rfl⟩ : ∃ v : Nat, b = -(v : Int) := ⟨b.natAbs, by omega⟩
      exact (neg v u (by omega) h.symm).elim
    · obtain ⟨v, rfl⟩ : ∃ v : Nat, b = v := ⟨b.toNat, by omega⟩
      rw [itoa_nonneg, itoa_nonneg] at h
      have := congrArg decVal h
      rw [decVal_digits, decVal_digits] at this
      omega
end Go.Lib
