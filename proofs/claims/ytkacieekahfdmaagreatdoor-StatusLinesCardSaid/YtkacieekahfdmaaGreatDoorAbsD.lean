import Derived.Test.YtkacieekahfdmaaGreatDoorAbsC
set_option linter.unusedSimpArgs false
set_option linter.unusedVariables false
set_option linter.unusedSectionVars false
set_option linter.unusedSectionVars false
namespace Go.Abs
open Go Go.RowKit
variable [Toks]
variable {ds : List Deferred}

/-- a way of calling that tells the truth -/
def CallOK (C : Ctx) (call : CallF) : Prop :=
  ∀ (Φ : Ph) (s : AS) (w : World) (f : FuncId) (args us : List Value) (v : Value) (s' : AS), Rel C Φ s w → VRs Φ args us → call f args s = some (v, s') →
    (∃ fn, C.P.funcs[f]? = some fn ∧ fn.body.isSome = true) ∧
    Calls C.P f ⟨us⟩ w (fun e w' => ∃ u Φ', e = .returned u ∧ VR Φ' v u ∧ Rel C Φ' s' w' ∧ Stp Φ s w Φ' s' w')

section
variable {C : Ctx} (ok : POK C) {Φ : Ph} {s : AS} {w : World}

include ok in
theorem run_callFunc {f : FuncId} {fn : Func} (hf : C.P.funcs[f]? = some fn) (hb : fn.body.isSome = true) (args : Array Value) (w : World) : (callFunc f args).run C.P w = .ok (.enter f args) w := by
  have hn := ok.name f fn hf
  have hn' : fn.name ≠ "runtime.NumGoroutine" := by simpa using hn
  have hb' : fn.body ≠ none := by cases h : fn.body <;> simp_all
  simp [callFunc, hf, hn', hb']

theorem run_wrap {P : Program} (ats : Array TypeId) (t : TypeId) (a : Addr) (x y : ByteArray) (w : World) :
    (Builtin.ssaWrapNilChk_ ats t #[.pointer (some a), .string x, .string y]).run P w = .ok (.pointer (some a)) w := by
  unfold Builtin.ssaWrapNilChk_
  rfl

include ok in
theorem method_ok (hR : Rel C Φ s w) {t : TypeId} {v v' : Value} {name : String} {f : FuncId} {x : Value} (h : aMethod C.E s t v name = some (f, x)) (hv : VR Φ v v') (n : Nat) :
    ∃ u, (Go.method (n + 1) t v' name).run C.P w = .ok (f, u) w ∧ VR Φ x u := by
  unfold aMethod at h
  split at h
  · rename_i ti hti
    have hinfo := info_of ok hti
    split at h
    · rename_i m hm
      split at h
      · rename_i hp
        have hp' : m.path.toList = [] := by simpa using hp
        have hm' : ti.methods.find? (·.name == name) = some m := by rw [← Array.find?_toList]; exact hm
        have hpe : m.path.isEmpty = true := by simpa using hp'
        have hp0 : m.path = #[] := by simpa using hp'
        split at h
        · rename_i g e hmf hu
          cases h
          exact ⟨v', by simp [Go.method, typeInfo, hinfo, hm', hp', follow, hmf, receiverAt, run_und ok hu, Place.get], hv⟩
        · rename_i g e hmf hu
          split at h
          · rename_i a
            split at h
            · rename_i y hy
              cases h
              obtain ⟨hsp, p, hpp, rfl⟩ := hv.ptr_inv
              obtain ⟨u, r1, r2⟩ := loadV_ok ok hR hy hpp
              refine ⟨u, ?_, r2⟩
              simp [Go.method, typeInfo, hinfo, hm', hp', follow, hmf, receiverAt, run_und ok hu, Place.get, hp0, strVal, run_wrap, asAddr, r1]
            · cases h
          · cases h
        · cases h
        · rename_i g d hnp hmf hu
          cases h
          refine ⟨v', ?_, hv⟩
          have hr : (receiverAt t (.val v') false (if m.path.isEmpty then some ((name.splitOn ".").getLastD name) else none)).run C.P w = .ok v' w := by
            unfold receiverAt
            rw [Sem.run_bind, run_und ok hu]
            cases d <;> first | (exact (hnp _ rfl).elim) | rfl
          simp [Go.method, typeInfo, hinfo, hm', hp', follow, hmf]
          simp [hp0] at hr
          simp [hp0, hr]
        · cases h
      · cases h
    · cases h
  · cases h

include ok in
theorem call_ok {call : CallF} (hcall : CallOK C call) (hR : Rel C Φ s w) {fr : Fr} {a : Act} (hF : FR ds Φ fr a) {c : Call} {v : Value} {s' : AS} (h : aCall C.E call fr s c = some (v, s')) (o : Oper) (ho : o.op = .call c) :
    ∃ f args, (execOp a.eval o).run C.P w = .ok (.enter f args) w ∧ Calls C.P f args w (fun e w' => ∃ u Φ', e = .returned u ∧ VR Φ' v u ∧ Rel C Φ' s' w' ∧ Stp Φ s w Φ' s' w') := by
  obtain ⟨dst, oop, ty, pos, after, guard⟩ := o
  simp only at ho; subst ho
  obtain ⟨callee, args, ats⟩ := c
  have e : args.map a.eval = (⟨args.toList.map a.eval⟩ : Array Value) := by apply Array.ext'; simp
  unfold aCall at h
  split at h
  · rename_i f vs hc hvs
    simp only at hc hvs
    subst hc
    have hus := hF.opds hvs
    split at h
    · rename_i g x y hfn
      obtain ⟨us, ws, hval, hx, hy⟩ := (hF.opd hfn).func_inv
      obtain ⟨⟨fn, hfn1, hfn2⟩, hcl⟩ := hcall Φ s w g _ _ v s' hR ((hx.append hus).append hy) h
      refine ⟨g, _, ?_, hcl⟩
      have : (⟨us ++ args.toList.map a.eval ++ ws⟩ : Array Value) = (⟨us⟩ ++ (⟨args.toList.map a.eval⟩ : Array Value)) ++ ⟨ws⟩ := by apply Array.ext'; simp
      rw [this]
      simp only [execOp, resolve, hval, e, Deferred.ofValue, Sem.run_bind, Sem.run_pure, Result.andThen_ok, invoke]
      exact run_callFunc ok hfn1 hfn2 _ _
    · cases h
  · rename_i r name vs hc hvs
    simp only at hc hvs
    subst hc
    have hus := hF.opds hvs
    split at h
    · rename_i t x hr
      split at h
      · rename_i g y hm
        obtain ⟨x', hval, hx⟩ := (hF.opd hr).iface_inv
        obtain ⟨u, hm1, hm2⟩ := method_ok ok hR hm hx (C.P.types.size + Made.depth - 1)
        obtain ⟨⟨fn, hfn1, hfn2⟩, hcl⟩ := hcall Φ s w g _ _ v s' hR (VRs.cons hm2 hus) h
        refine ⟨g, _, ?_, hcl⟩
        have hd : C.P.types.size + Made.depth - 1 + 1 = C.P.types.size + Made.depth := by
          have : 0 < Made.depth := by decide
          omega
        rw [hd] at hm1
        have e1 : (⟨u :: args.toList.map a.eval⟩ : Array Value) = #[u] ++ (#[Value.iface t x'] ++ (⟨args.toList.map a.eval⟩ : Array Value)).extract 1 (#[Value.iface t x'] ++ (⟨args.toList.map a.eval⟩ : Array Value)).size := by
          apply Array.ext'; simp; rw [List.take_of_length_le (by simp)]
        have e2 : (#[Value.iface t x'] ++ (⟨args.toList.map a.eval⟩ : Array Value))[0]? = some (Value.iface t x') := by simp
        simp only [execOp, resolve, hval, e, Sem.run_bind, Sem.run_pure, Result.andThen_ok, invoke]
        rw [e2]
        have hpr : (program).run C.P w = .ok C.P w := rfl
        simp only [callMethod, Sem.run_bind, hpr, Sem.run_pure, Result.andThen_ok]
        rw [hm1]
        simp only [Result.andThen_ok]
        rw [e1]
        exact run_callFunc ok hfn1 hfn2 _ _
      · cases h
    · cases h
  · cases h

/-- an operation that is a call, one that writes, one that lays a block, one that only looks: what follows it -/
theorem oper_of_value {o : Oper} {a : Act} {u : Value} {K : Act → World → Prop} {Q : Exit → Act → World → Prop} {w' : World} (h : (execOp a.eval o).run C.P w = .ok (.value u) w') (hK : K (a.put o.dst u) w') : o.wp C.P a w K Q := by
  simp only [Oper.wp, h, Oper.upon]; exact hK

include ok in
theorem eop_ok (hR : Rel C Φ s w) {fr : Fr} {a : Act} (hF : FR ds Φ fr a) {o : Oper} {v : Value} {s' : AS} (h : aEff C.E fr s o.op = some (v, s')) {K : Act → World → Prop} {Q : Exit → Act → World → Prop}
    (hK : ∀ u w' Φ', VR Φ' v u → Rel C Φ' s' w' → Stp Φ s w Φ' s' w' → K (a.put o.dst u) w') : o.wp C.P a w K Q := by
  obtain ⟨n, u, w', Φ', r1, r2, r3, r4, r5⟩ := eff_ok ok hR hF h o rfl
  rcases r2 with rfl | ⟨rfl, rfl⟩ <;> (simp only [Oper.wp, r1, Oper.upon]; exact hK _ _ _ r3 r4 r5)

include ok in
theorem callop_ok {call : CallF} (hcall : CallOK C call) (hR : Rel C Φ s w) {fr : Fr} {a : Act} (hF : FR ds Φ fr a) {o : Oper} {c : Call} (ho : o.op = .call c) {v : Value} {s' : AS} (h : aCall C.E call fr s c = some (v, s')) {K : Act → World → Prop} {Q : Exit → Act → World → Prop}
    (hK : ∀ u w' Φ', VR Φ' v u → Rel C Φ' s' w' → Stp Φ s w Φ' s' w' → K (a.put o.dst u) w') : o.wp C.P a w K Q := by
  obtain ⟨f, args, r1, r2⟩ := call_ok ok hcall hR hF h o ho
  simp only [Oper.wp, r1, Oper.upon]
  exact r2.mono fun e w' ⟨u, Φ', h1, h2, h3, h4⟩ => by subst h1; exact hK u w' Φ' h2 h3 h4

include ok in
theorem aop_ok (hR : Rel C Φ s w) {fr : Fr} {a : Act} (hF : FR ds Φ fr a) {o : Oper} {v : Value} {s' : AS} (h : aop C.E fr s o.op = some (v, s')) {K : Act → World → Prop} {Q : Exit → Act → World → Prop}
    (hK : ∀ u w' Φ', VR Φ' v u → Rel C Φ' s' w' → Stp Φ s w Φ' s' w' → K (a.put o.dst u) w') : o.wp C.P a w K Q := by
  unfold aop at h
  split at h
  · split at h
    · rename_i ob f hn
      split at h
      · rename_i i s1 hs
        cases h
        obtain ⟨obj, n, z, u, r1, r2⟩ := new_ok ok hF hn o rfl w
        obtain ⟨Φ', e1, e2, e3, e4⟩ := hR.new hs obj n z (fun Φ' he hi => (r2 Φ' _ he hi).1)
        exact oper_of_value r1 (hK _ _ _ (r2 Φ' _ e1 e2).2 e3 e4)
      · cases h
    · cases h
  · exact eop_ok ok hR hF h hK
  · split at h
    · rename_i v1 hq
      cases h
      obtain ⟨v', r1, r2⟩ := quiet_ok ok hR hF hq o rfl
      exact oper_of_value r1 (hK _ _ _ r2 hR (Stp.refl hR))
    · cases h

include ok in
theorem oper_ok {call : CallF} (hcall : CallOK C call) (hR : Rel C Φ s w) {fr : Fr} {a : Act} (hF : FR ds Φ fr a) {o : Oper} {v : Value} {s' : AS} (h : aOper C.E call fr s o.op = some (v, s')) {K : Act → World → Prop} {Q : Exit → Act → World → Prop}
    (hK : ∀ u w' Φ', VR Φ' v u → Rel C Φ' s' w' → Stp Φ s w Φ' s' w' → K (a.put o.dst u) w') : o.wp C.P a w K Q := by
  unfold aOper at h
  split at h
  · rename_i c ho
    split at h
    · exact aop_ok ok hR hF h hK
    · exact callop_ok ok hcall hR hF ho h hK
  · exact aop_ok ok hR hF h hK
end
end Go.Abs
set_option linter.unusedSectionVars false
namespace Go.Abs
open Go Go.RowKit
variable [Toks]
variable {ds : List Deferred}

theorem VR.bool_of {Φ : Ph} {x : Value} {b : Bool} (h : VR Φ x (.bool b)) (hx : ∀ k, x ≠ .chan k) : x = .bool b := by
  cases h with
  | flat _ _ => rfl
  | tok k _ h => exact absurd rfl (hx _)

theorem wanted_ok {Φ : Ph} {ops : Array Oper} {o : Oper} {fr : Fr} {a : Act} (hF : ∀ d ∈ readsOf ops.toList o, VR Φ (fr.get d) (a.tmps.getD d undef)) (hgok : gOk ops.toList fr o = true) :
    Region.wanted o (yielded ops a.tmps) = aWanted ops.toList fr o := by
  unfold Region.wanted aWanted
  cases hg : o.guard with
  | none => rfl
  | some g =>
    obtain ⟨j, want⟩ := g
    simp only
    unfold yielded
    rw [Array.getElem?_toList]
    cases hj : ops[j]? with
    | none => rfl
    | some oj =>
      simp only [Option.bind_some]
      cases hd : oj.dst with
      | none => rfl
      | some d =>
        simp only [Option.bind_some]
        have hm : d ∈ readsOf ops.toList o := by
          unfold readsOf
          rw [hg]
          simp only [Array.getElem?_toList, hj, hd]
          exact List.mem_append_right _ (by simp)
        have hv := hF d hm
        have hnt : ∀ k, fr.get d ≠ .chan k := by
          intro k e
          unfold gOk at hgok
          rw [hg] at hgok
          simp only [Array.getElem?_toList, hj, hd, e] at hgok
          cases hgok
        rw [Array.getD_eq_getD_getElem?] at hv
        cases ht : a.tmps[d]? with
        | none =>
          rw [ht] at hv
          simp only [Option.getD_none] at hv
          generalize fr.get d = x at hv
          cases x <;> first | rfl | (have := hv.bool_inv; cases this)
        | some u =>
          rw [ht] at hv
          simp only [Option.getD_some] at hv
          generalize fr.get d = x at hv hnt
          cases u <;> first
            | (cases x <;> first | rfl | (have := hv.bool_inv; cases this; done))
            | (rename_i b
               have := hv.bool_of hnt
               subst this
               cases b <;> cases want <;> rfl)

section
variable {C : Ctx} (ok : POK C) {Φ : Ph} {s : AS} {w : World}

include ok in
theorem seq_ok {call : CallF} (hcall : CallOK C call) {ops : Array Oper} {Q : Exit → Act → World → Prop} : ∀ (rest : List Oper) (i : Nat) {Φ : Ph} {s : AS} {w : World} {fr : Fr} {a : Act} {fr' : Fr} {s' : AS}, ops.toList.drop i = rest → fr.n < 16000000 → Rel C Φ s w → FR ds Φ fr a →
    seqRun C.E call ops.toList rest fr s = some (fr', s') → (∀ a' w' Φ', FR ds Φ' fr' a' → fr'.n = fr.n → Rel C Φ' s' w' → Stp Φ s w Φ' s' w' → Q .normal a' w') → wpOps C.P ops Q (List.range' i rest.length) a w := by
  intro rest
  induction rest with
  | nil =>
    intro i Φ s w fr a fr' s' _ _ hR hF h hQ
    simp only [seqRun, Option.some.injEq, Prod.mk.injEq] at h
    obtain ⟨rfl, rfl⟩ := h
    exact hQ a w Φ hF rfl hR (Stp.refl hR)
  | cons o rest ih =>
    intro i Φ s w fr a fr' s' hd hn hR hF h hQ
    have ho : ops[i]? = some o := by
      rw [← Array.getElem?_toList]
      have := congrArg (·[0]?) hd
      simpa using this
    have hd' : ops.toList.drop (i + 1) = rest := by
      rw [← List.drop_drop, hd]; rfl
    simp only [List.length_cons, List.range'_succ, wpOps, ho]
    simp only [seqRun] at h
    split at h
    case isFalse => cases h
    rename_i hgk
    have hw := wanted_ok (Φ := Φ) (ops := ops) (o := o) (fr := fr) (a := a) (fun d _ => hF.val d) hgk
    rw [hw]
    split at h
    · rename_i hwt
      rw [if_pos hwt]
      split at h
      · rename_i v s1 hop
        split at h
        · rename_i fr1 hput
          refine .inl (oper_ok ok hcall hR hF hop fun u w' Φ' hv hR' hS => ?_)
          refine ih (i + 1) hd' (by rw [Fr.put_n hput]; exact hn) hR' ((hF.mono hS.ext).put hn hput hv) h ?_
          intro a' w'' Φ'' h1 h2 h3 h4
          exact hQ a' w'' Φ'' h1 (by rw [h2, Fr.put_n hput]) h3 (hS.trans h4)
        · cases h
      · cases h
    · rename_i hwt
      rw [if_neg hwt]
      split at h
      · rename_i fr1 hput
        refine ih (i + 1) hd' (by rw [Fr.put_n hput]; exact hn) hR (hF.put hn hput (.undef Φ)) h ?_
        intro a' w'' Φ'' h1 h2 h3 h4
        exact hQ a' w'' Φ'' h1 (by rw [h2, Fr.put_n hput]) h3 h4
      · cases h
end
end Go.Abs
set_option linter.unusedSectionVars false
namespace Go.Abs
open Go Go.RowKit
variable [Toks]
variable {ds : List Deferred}

/-! what an operation answers depends on the slots that it reads -/
section
variable {fr fr' : Fr}

theorem opd_congr {x : Operand} (h : ∀ d, x = .tmp d → fr.get d = fr'.get d) : opd fr x = opd fr' x := by
  cases x with
  | tmp d => simp only [opd]; rw [h d rfl]
  | _ => rfl

def Same (fr fr' : Fr) (x : Operand) : Prop := opd fr x = opd fr' x

theorem opds_congr : ∀ {l : List Operand}, (∀ x ∈ l, Same fr fr' x) → opds fr l = opds fr' l := by
  intro l
  induction l with
  | nil => intro _; rfl
  | cons x l ih =>
    intro h
    have hx : opd fr x = opd fr' x := h x (by simp)
    simp only [opds, hx, ih (fun y hy => h y (by simp [hy]))]
theorem pairs_congr : ∀ {l : List (Nat × Operand)}, (∀ x ∈ l.map (·.2), Same fr fr' x) → pairs fr l = pairs fr' l := by
  intro l
  induction l with
  | nil => intro _; rfl
  | cons x l ih =>
    intro h
    obtain ⟨i, x⟩ := x
    have hx : opd fr x = opd fr' x := h x (by simp)
    simp only [pairs, hx, ih (fun y hy => h y (by simp only [List.map_cons, List.mem_cons]; exact .inr hy))]
theorem opO_congr {x : Option Operand} (h : ∀ y, x = some y → Same fr fr' y) : opO fr x = opO fr' x := by
  cases x with
  | none => rfl
  | some y =>
    have : opd fr y = opd fr' y := h y rfl
    simp only [opO, this]

def SameIn (fr fr' : Fr) (op : Op) : Prop := ∀ x ∈ op.operands.toList, Same fr fr' x
theorem sameIn_of {op : Op} (h : ∀ d ∈ tmpsOf op, fr.get d = fr'.get d) : SameIn fr fr' op := by
  intro x hx
  refine opd_congr fun d hd => h d ?_
  unfold tmpsOf
  rw [List.mem_filterMap]
  exact ⟨x, hx, by rw [hd]⟩

theorem aQuiet0_congr {E : Env} {s : AS} {op : Op} (h : SameIn fr fr' op) : aQuiet0 E fr s op = aQuiet0 E fr' s op := by
  cases op <;> first
    | rfl
    | (simp only [SameIn, Op.operands, List.mem_cons, List.not_mem_nil, or_false, forall_eq_or_imp, forall_eq, Same] at h; simp only [aQuiet0, h]; done)
    | skip
  case build t ps =>
    have : pairs fr ps.toList = pairs fr' ps.toList := pairs_congr (fun x hx => h x (by simpa [Op.operands] using hx))
    simp only [aQuiet0, this]
  case makeFunc f a b =>
    have h1 : opds fr a.toList = opds fr' a.toList := opds_congr (fun x hx => h x (by simp [Op.operands]; exact .inl (by simpa using hx)))
    have h2 : opds fr b.toList = opds fr' b.toList := opds_congr (fun x hx => h x (by simp [Op.operands]; exact .inr (by simpa using hx)))
    simp only [aQuiet0, h1, h2]
  case slice t x lo hi mx =>
    have h1 : opd fr x = opd fr' x := h x (by simp [Op.operands])
    have h2 : opO fr lo = opO fr' lo := opO_congr (fun y hy => h y (by subst hy; simp [Op.operands]))
    have h3 : opO fr hi = opO fr' hi := opO_congr (fun y hy => h y (by subst hy; simp [Op.operands]))
    have h4 : opO fr mx = opO fr' mx := opO_congr (fun y hy => h y (by subst hy; simp [Op.operands]))
    simp only [aQuiet0, h1, h2, h3, h4]
  case call c =>
    obtain ⟨callee, args, ats⟩ := c
    cases callee with
    | builtin b =>
      have h1 : opds fr args.toList = opds fr' args.toList := opds_congr (fun x hx => h x (by simp [Op.operands, Call.operands]; simpa using hx))
      simp only [aQuiet0, h1]
    | _ => rfl

theorem aQuiet_congr {E : Env} {s : AS} {op : Op} (h : SameIn fr fr' op) : aQuiet E fr s op = aQuiet E fr' s op := by
  unfold aQuiet
  rw [aQuiet0_congr h, opds_congr h]

theorem aNew_congr {E : Env} {op : Op} (h : SameIn fr fr' op) : aNew E fr op = aNew E fr' op := by
  cases op <;> first
    | rfl
    | (simp only [SameIn, Op.operands, List.mem_cons, List.not_mem_nil, or_false, forall_eq_or_imp, forall_eq, Same] at h; simp only [aNew, h]; done)
    | skip
  case buildSlice t n ps =>
    have : pairs fr ps.toList = pairs fr' ps.toList := pairs_congr (fun x hx => h x (by simpa [Op.operands] using hx))
    simp only [aNew, this]
  case makeMap t x => cases x <;> rfl

theorem aEff_congr {E : Env} {s : AS} {op : Op} (h : SameIn fr fr' op) : aEff E fr s op = aEff E fr' s op := by
  cases op <;> first
    | rfl
    | (simp only [SameIn, Op.operands, List.mem_cons, List.not_mem_nil, or_false, forall_eq_or_imp, forall_eq, Same] at h; simp only [aEff, h]; done)
    | skip
  case call c =>
    obtain ⟨callee, args, ats⟩ := c
    cases callee with
    | builtin b =>
      have h1 : opds fr args.toList = opds fr' args.toList := opds_congr (fun x hx => h x (by simp [Op.operands, Call.operands]; simpa using hx))
      simp only [aEff, h1]
    | _ => rfl

theorem aop_congr {E : Env} {s : AS} {op : Op} (h : SameIn fr fr' op) : aop E fr s op = aop E fr' s op := by
  unfold aop
  rw [aNew_congr h, aEff_congr h, aQuiet_congr h]

theorem aOper_congr {E : Env} {call : CallF} {s : AS} {op : Op} (h : SameIn fr fr' op) : aOper E call fr s op = aOper E call fr' s op := by
  have h0 := aop_congr (E := E) (s := s) h
  cases op with
  | call c =>
    unfold aOper
    simp only
    rw [h0]
    obtain ⟨callee, args, ats⟩ := c
    cases callee with
    | builtin b => rfl
    | value f =>
      have h1 : opds fr args.toList = opds fr' args.toList := opds_congr (fun x hx => h x (by simp [Op.operands, Call.operands]; exact .inr (by simpa using hx)))
      have h2 : opd fr f = opd fr' f := h f (by simp [Op.operands, Call.operands])
      simp only [aCall, h1]; cases opds fr' args.toList <;> simp only [h2]
    | invoke r name =>
      have h1 : opds fr args.toList = opds fr' args.toList := opds_congr (fun x hx => h x (by simp [Op.operands, Call.operands]; exact .inr (by simpa using hx)))
      have h2 : opd fr r = opd fr' r := h r (by simp [Op.operands, Call.operands])
      simp only [aCall, h1]; cases opds fr' args.toList <;> simp only [h2]
  | _ => exact h0

theorem gOk_congr {ops : List Oper} {o : Oper} (h : ∀ d ∈ readsOf ops o, fr.get d = fr'.get d) : gOk ops fr o = gOk ops fr' o := by
  unfold gOk
  cases hg : o.guard with
  | none => rfl
  | some g =>
    obtain ⟨j, want⟩ := g
    simp only
    cases hj : ops[j]? with
    | none => rfl
    | some oj =>
      simp only
      cases hd : oj.dst with
      | none => rfl
      | some d =>
        simp only
        rw [h d (by unfold readsOf; rw [hg]; simp only [hj, hd]; exact List.mem_append_right _ (by simp))]
theorem aWanted_congr {ops : List Oper} {o : Oper} (h : ∀ d ∈ readsOf ops o, fr.get d = fr'.get d) : aWanted ops fr o = aWanted ops fr' o := by
  unfold aWanted
  cases hg : o.guard with
  | none => rfl
  | some g =>
    obtain ⟨j, want⟩ := g
    simp only
    cases hj : ops[j]? with
    | none => rfl
    | some oj =>
      simp only
      cases hd : oj.dst with
      | none => rfl
      | some d =>
        simp only
        rw [h d (by unfold readsOf; rw [hg]; simp only [hj, hd]; exact List.mem_append_right _ (by simp))]
end

/-- a pure operation does not look at the memory -/
theorem pure_indep0 {E : Env} {fr : Fr} {s s' : AS} {op : Op} (h : cls op = .pure) : aQuiet0 E fr s op = aQuiet0 E fr s' op := by
  cases op <;> first
    | rfl
    | (simp [cls] at h; done)
    | skip
  case call c =>
    obtain ⟨callee, args, ats⟩ := c
    cases callee with
    | builtin b =>
      cases b <;> first
        | (simp [cls] at h; done)
        | (simp only [aQuiet0]; cases opds fr args.toList with
            | none => rfl
            | some vs => simp only; generalize ats.toList = l; cases l <;> cases vs <;> rfl)
    | _ => simp [cls] at h

theorem pure_indep {E : Env} {fr : Fr} {s s' : AS} {op : Op} (h : cls op = .pure) : aQuiet E fr s op = aQuiet E fr s' op := by
  unfold aQuiet
  rw [pure_indep0 h (s' := s')]

theorem beqB_eq {x y : ByteArray} (h : beqL x.data.toList y.data.toList = true) : x = y := by
  rw [← beqL_beq] at h
  have e : x.data.toList = y.data.toList := by simpa using h
  cases x; cases y; rename_i xa ba; cases xa; cases ba; simp_all

theorem flatEq_eq {u v : Value} (h : veq.flatEq u v = true) : u = v := by
  cases u <;> cases v <;> simp only [veq.flatEq, Bool.and_eq_true, beq_iff_eq, decide_eq_true_eq, Bool.false_eq_true] at h <;> first
    | (subst h; rfl)
    | (obtain ⟨rfl, rfl⟩ := h; rfl)
    | (obtain ⟨⟨rfl, rfl⟩, rfl⟩ := h; rfl)
    | rfl
    | (rw [beqB_eq h])
theorem go_eq : ∀ {x y : List Value}, veq.go x y = true → x = y := by
  intro x
  induction x with
  | nil => intro y h; cases y with | nil => rfl | cons _ _ => simp [veq.go] at h
  | cons a x ih =>
    intro y h
    cases y with
    | nil => simp [veq.go] at h
    | cons b y =>
      simp only [veq.go, Bool.and_eq_true] at h
      rw [flatEq_eq h.1, ih h.2]
theorem arr_eq {x y : Array Value} (h : x.toList = y.toList) : x = y := Array.ext' h
theorem veq_eq {u v : Value} (h : veq u v = true) : u = v := by
  unfold veq at h
  split at h <;> (try simp only [Bool.and_eq_true, beq_iff_eq, decide_eq_true_eq, Bool.false_eq_true] at h) <;> first
    | (subst h; rfl)
    | (obtain ⟨rfl, rfl⟩ := h; rfl)
    | (obtain ⟨⟨rfl, rfl⟩, rfl⟩ := h; rfl)
    | rfl
    | (rw [beqB_eq h]; done)
    | (rw [arr_eq (go_eq h)]; done)
    | (obtain ⟨⟨rfl, h1⟩, h2⟩ := h; rw [arr_eq (go_eq h1), arr_eq (go_eq h2)])
theorem sameIn_spec {E : Env} {fr : Fr} {op : Op} {v : Value} {s : AS} (h : sameIn E fr op v s = true) : aQuiet E fr s op = some v := by
  unfold sameIn at h
  split at h
  · rename_i u hu; rw [hu, veq_eq h]
  · cases h
end Go.Abs
set_option linter.unusedSectionVars false
namespace Go.Abs
open Go Go.RowKit
variable [Toks]
variable {ds : List Deferred}

/-! the record of a region's run in the order of the text -/
section
variable {E : Env} {call : CallF} {all : List Oper} {base : Nat} {bef : List Nat}

inductive DC (E : Env) (call : CallF) (all : List Oper) (base mask k : Nat) (o : Oper) (d d' : DS) (v : Value) : Prop
  | off (h : aWanted all d.fr o = false) (hv : v = undef) (hd : d' = { d with fr := d'.fr })
  | pure (h : aWanted all d.fr o = true) (hc : cls o.op = .pure) (hv : aQuiet E d.fr { heap := .nil, next := 0 } o.op = some v) (hd : d' = { d with fr := d'.fr })
  | read (h : aWanted all d.fr o = true) (hc : cls o.op = .read) (hv : aQuiet E d.fr d.st o.op = some v) (hh : ∀ e s, (e, s) ∈ d.hist → mask.testBit e = false → aQuiet E d.fr s o.op = some v)
      (hd : d' = { d with fr := d'.fr, seen := (k, d.fr, o.op, v) :: d.seen })
  | alloc (h : aWanted all d.fr o = true) (hc : cls o.op = .alloc) (ob : AObj) (f : Nat → Value) (hn : aNew E d.fr o.op = some (ob, f)) (hv : v = f (base + k)) (hd : d' = { d with fr := d'.fr, pend := (k, base + k, ob) :: d.pend })
  | eff (h : aWanted all d.fr o = true) (hc : cls o.op = .eff) (st' : AS) (hh : ∀ e s, (e, s) ∈ d.hist → mask.testBit e = true) (hv : aOper E call d.fr (merge mask d.pend d.st).2 o.op = some (v, st'))
      (hs : ∀ r fr op u, (r, fr, op, u) ∈ d.seen → mask.testBit r = false → aQuiet E fr st' op = some u)
      (hd : d' = { d with fr := d'.fr, st := st', pend := (merge mask d.pend d.st).1, hist := (k, d.st) :: d.hist })

theorem drawStep_inv {k : Nat} {o : Oper} {d d' : DS} (h : drawStep E call all base bef k o d = some d') : ∃ v, d.fr.put o.dst v = some d'.fr ∧ DC E call all base ((bef[k]?).getD 0) k o d d' v := by
  unfold drawStep at h
  split at h
  case isFalse => cases h
  unfold drawStep0 at h
  simp only at h
  split at h
  · rename_i hw
    split at h
    · rename_i hc
      split at h
      · rename_i v hv
        split at h
        · rename_i fr hp
          cases h
          exact ⟨v, hp, .pure hw hc hv rfl⟩
        · cases h
      · cases h
    · rename_i hc
      split at h
      · rename_i v hv
        split at h
        · rename_i hh
          split at h
          · rename_i fr hp
            cases h
            refine ⟨v, hp, .read hw hc hv ?_ rfl⟩
            intro e s hm hb
            have := List.all_eq_true.1 hh _ hm
            simp only [hb, Bool.false_or] at this
            exact sameIn_spec this
          · cases h
        · cases h
      · cases h
    · rename_i hc
      split at h
      · rename_i ob f hn
        split at h
        · rename_i fr hp
          cases h
          exact ⟨_, hp, .alloc hw hc ob f hn rfl rfl⟩
        · cases h
      · cases h
    · rename_i hc
      split at h
      · rename_i hh
        split at h
        · rename_i v st' hv
          split at h
          · rename_i hs
            split at h
            · rename_i fr hp
              cases h
              refine ⟨v, hp, .eff hw hc st' ?_ hv ?_ rfl⟩
              · intro e s hm
                exact List.all_eq_true.1 hh _ hm
              · intro r fr op u hm hb
                have := List.all_eq_true.1 hs _ hm
                simp only [hb, Bool.false_or] at this
                exact sameIn_spec this
            · cases h
          · cases h
        · cases h
      · cases h
  · rename_i hw
    split at h
    · rename_i fr hp
      cases h
      exact ⟨_, hp, .off (by simpa using hw) rfl rfl⟩
    · cases h

theorem drawStep_gok {k : Nat} {o : Oper} {d d' : DS} (h : drawStep E call all base bef k o d = some d') : gOk all d.fr o = true := by
  unfold drawStep at h
  split at h
  · assumption
  · cases h

theorem drawRun_trace : ∀ (rest : List Oper) (k : Nat) (d df : DS), all.drop k = rest → drawRun E call all base bef k rest d = some df →
    ∃ D : Nat → DS, D k = d ∧ D (k + rest.length) = df ∧ ∀ j o, k ≤ j → all[j]? = some o → drawStep E call all base bef j o (D j) = some (D (j + 1)) := by
  intro rest
  induction rest with
  | nil =>
    intro k d df hd h
    simp only [drawRun, Option.some.injEq] at h
    subst h
    refine ⟨fun _ => d, rfl, rfl, fun j o hj ho => ?_⟩
    have : all.length ≤ k := by simpa using hd
    rw [List.getElem?_eq_none (by omega)] at ho; cases ho
  | cons o rest ih =>
    intro k d df hd h
    simp only [drawRun] at h
    split at h
    · rename_i d1 h1
      have hd' : all.drop (k + 1) = rest := by rw [← List.drop_drop, hd]; rfl
      obtain ⟨D, g1, g2, g3⟩ := ih (k + 1) d1 df hd' h
      refine ⟨fun j => if j = k then d else D j, by simp, ?_, fun j p hj hp => ?_⟩
      · simp only [List.length_cons]
        rw [if_neg (by omega), ← g2]
        congr 1; omega
      · by_cases e : j = k
        · subst e
          have : all[j]? = some o := by
            have := congrArg (·[0]?) hd
            simpa using this
          rw [this] at hp; cases hp
          simp only [if_true]
          rw [if_neg (by omega), g1]; exact h1
        · simp only [e, if_false]
          rw [if_neg (by omega)]
          exact g3 j p (by omega) hp
    · cases h

/-! merge -/
theorem merge_fst (mask : Nat) : ∀ (l : List (Nat × Nat × AObj)) (s : AS), (merge mask l s).1 = l.filter (fun p => !mask.testBit p.1) := by
  intro l
  induction l with
  | nil => intro s; rfl
  | cons p l ih =>
    intro s
    obtain ⟨k, i, o⟩ := p
    simp only [merge]
    have := ih s
    cases hb : mask.testBit k <;> simp [hb, this]

/-! who comes before -/
theorem foldl_or {β : Type} (f : β → Nat) : ∀ (l : List β) (m : Nat), l.foldl (fun m e => m ||| f e) m = m ||| l.foldl (fun m e => m ||| f e) 0 := by
  intro l
  induction l with
  | nil => intro m; simp
  | cons x l ih => intro m; simp only [List.foldl_cons]; rw [ih (m ||| f x), ih (0 ||| f x)]; simp [Nat.or_assoc]
theorem testBit_foldl {β : Type} (f : β → Nat) (j : Nat) : ∀ (l : List β), (l.foldl (fun m e => m ||| f e) 0).testBit j = true ↔ ∃ e ∈ l, (f e).testBit j = true := by
  intro l
  induction l with
  | nil => simp
  | cons x l ih =>
    simp only [List.foldl_cons, Nat.zero_or]
    rw [foldl_or, Nat.testBit_or, Bool.or_eq_true, ih]
    simp

theorem befores_spec : ∀ (rest : List Oper) (acc : List Nat), ∃ ms, befores rest acc = acc ++ ms ∧ ms.length = rest.length ∧ ∀ (k : Nat) (o : Oper) (j : Nat), rest[k]? = some o →
    (((ms[k]?).getD 0).testBit j = true ↔ ∃ e ∈ o.after, Region.binds .any e = true ∧ (j = e.on ∨ (e.on < acc.length + k ∧ (((acc ++ ms)[e.on]?).getD 0).testBit j = true))) := by
  intro rest
  induction rest with
  | nil => intro acc; exact ⟨[], by simp [befores], rfl, fun k o j h => by simp at h⟩
  | cons o rest ih =>
    intro acc
    simp only [befores]
    obtain ⟨ms, h1, h2, h3⟩ := ih (acc ++ [o.after.toList.foldl (fun m e => if Region.binds .any e then m ||| 2 ^ e.on ||| (acc[e.on]?).getD 0 else m) 0])
    rw [List.append_assoc, List.singleton_append] at h1
    refine ⟨_, h1, by simp [h2], fun k p j hk => ?_⟩
    cases k with
    | zero =>
      simp only [List.getElem?_cons_zero, Option.some.injEq] at hk
      subst hk
      simp only [List.getElem?_cons_zero, Option.getD_some]
      have he : (fun (m : Nat) (e : Edge) => if Region.binds .any e then m ||| 2 ^ e.on ||| (acc[e.on]?).getD 0 else m) = (fun m e => m ||| (if Region.binds .any e then 2 ^ e.on ||| (acc[e.on]?).getD 0 else 0)) := by
        funext m e
        split
        · rw [Nat.or_assoc]
        · simp
      rw [he, testBit_foldl]
      constructor
      · rintro ⟨e, hm, hb⟩
        split at hb
        · rename_i hbd
          refine ⟨e, by simpa using hm, hbd, ?_⟩
          rw [Nat.testBit_or, Bool.or_eq_true] at hb
          rcases hb with hb | hb
          · rw [Nat.testBit_two_pow] at hb
            exact .inl (by simpa using hb : e.on = j).symm
          · right
            have hlt : e.on < acc.length := by
              rcases Nat.lt_or_ge e.on acc.length with h' | h'
              · exact h'
              · rw [List.getElem?_eq_none h'] at hb; simp at hb
            refine ⟨by omega, ?_⟩
            rw [List.getElem?_append_left hlt]; exact hb
        · simp at hb
      · rintro ⟨e, hm, hbd, hj⟩
        refine ⟨e, by simpa using hm, ?_⟩
        rw [if_pos hbd, Nat.testBit_or, Bool.or_eq_true]
        rcases hj with rfl | ⟨hlt, hb⟩
        · exact .inl (by rw [Nat.testBit_two_pow]; simp)
        · right
          rw [List.getElem?_append_left (by omega)] at hb; exact hb
    | succ k =>
      simp only [List.getElem?_cons_succ] at hk ⊢
      rw [h3 k p j hk]
      have e1 : ∀ x : Nat, (acc ++ [x]) ++ ms = acc ++ (x :: ms) := fun x => by simp
      rw [e1]
      simp only [List.length_append, List.length_cons, List.length_nil]
      constructor
      · rintro ⟨e, hm, hb, hj⟩
        exact ⟨e, hm, hb, hj.imp id (fun ⟨a, b⟩ => ⟨by omega, b⟩)⟩
      · rintro ⟨e, hm, hb, hj⟩
        exact ⟨e, hm, hb, hj.imp id (fun ⟨a, b⟩ => ⟨by omega, b⟩)⟩

/-- bit j of the mask of k -/
def Bef (ops : Array Oper) (k j : Nat) : Prop := (((befores ops.toList [])[k]?).getD 0).testBit j = true

theorem bef_spec {ops : Array Oper} {k : Nat} {o : Oper} (ho : ops[k]? = some o) (j : Nat) : Bef ops k j ↔ ∃ e ∈ o.after, Region.binds .any e = true ∧ (j = e.on ∨ (e.on < k ∧ Bef ops e.on j)) := by
  obtain ⟨ms, h1, h2, h3⟩ := befores_spec ops.toList []
  simp only [List.nil_append] at h1
  unfold Bef
  rw [h1, h3 k o j (by rw [Array.getElem?_toList]; exact ho)]
  simp
end
end Go.Abs
set_option linter.unusedSectionVars false
namespace Go.Abs
open Go Go.RowKit
variable [Toks]
variable {ds : List Deferred}

theorem dstsOk_spec : ∀ (l : List Oper) (seen : List Nat), dstsOk l seen = true →
    (∀ (i : Nat) (o : Oper) d, l[i]? = some o → o.dst = some d → d ∉ seen) ∧ (∀ (i j : Nat) (o p : Oper) d, l[i]? = some o → l[j]? = some p → o.dst = some d → p.dst = some d → i = j) := by
  intro l
  induction l with
  | nil => intro seen _; exact ⟨fun i o d h => by simp at h, fun i j o p d h => by simp at h⟩
  | cons x l ih =>
    intro seen h
    simp only [dstsOk] at h
    cases hx : x.dst with
    | none =>
      rw [hx] at h
      simp only at h
      obtain ⟨h1, h2⟩ := ih seen h
      refine ⟨fun i o d hi ho => ?_, fun i j o p d hi hj ho hp => ?_⟩
      · cases i with
        | zero => simp at hi; subst hi; rw [hx] at ho; cases ho
        | succ i => exact h1 i o d (by simpa using hi) ho
      · cases i with
        | zero => simp at hi; subst hi; rw [hx] at ho; cases ho
        | succ i =>
          cases j with
          | zero => simp at hj; subst hj; rw [hx] at hp; cases hp
          | succ j => rw [h2 i j o p d (by simpa using hi) (by simpa using hj) ho hp]
    | some e =>
      rw [hx] at h
      simp only [Bool.and_eq_true, Bool.not_eq_true', List.contains_eq_mem, decide_eq_false_iff_not] at h
      obtain ⟨h0, h⟩ := h
      obtain ⟨h1, h2⟩ := ih (e :: seen) h
      refine ⟨fun i o d hi ho => ?_, fun i j o p d hi hj ho hp => ?_⟩
      · cases i with
        | zero => simp at hi; subst hi; rw [hx] at ho; cases ho; exact h0
        | succ i => exact fun hm => h1 i o d (by simpa using hi) ho (List.mem_cons_of_mem _ hm)
      · cases i with
        | zero =>
          simp at hi; subst hi; rw [hx] at ho; cases ho
          cases j with
          | zero => rfl
          | succ j => exact absurd (List.mem_cons_self) (h1 j p e (by simpa using hj) hp)
        | succ i =>
          cases j with
          | zero =>
            simp at hj; subst hj; rw [hx] at hp; cases hp
            exact absurd (List.mem_cons_self) (h1 i o e (by simpa using hi) ho)
          | succ j => rw [h2 i j o p d (by simpa using hi) (by simpa using hj) ho hp]

theorem orderOk_spec {ops : Array Oper} (h : orderOk ops.toList (befores ops.toList []) = true) {i : Nat} {o : Oper} (hi : ops[i]? = some o) :
    (∀ j, Bef ops i j → j < i) ∧ ∀ (j : Nat) (p : Oper) d, ops[j]? = some p → p.dst = some d → d ∈ readsOf ops.toList o → i = j ∨ Bef ops i j ∨ Bef ops j i := by
  unfold orderOk at h
  have hm : ∀ (k : Nat) (x : Oper), ops[k]? = some x → (x, k) ∈ ops.toList.zipIdx := by
    intro k x hx
    rw [List.mk_mem_zipIdx_iff_getElem?, Array.getElem?_toList]; exact hx
  have h1 := List.all_eq_true.1 h _ (hm i o hi)
  simp only [Bool.and_eq_true] at h1
  obtain ⟨h1, h2⟩ := h1
  refine ⟨fun j hj => ?_, fun j p d hj hd hr => ?_⟩
  · rcases Nat.lt_or_ge j i with h' | h'
    · exact h'
    · have hlt : (((befores ops.toList [])[i]?).getD 0) < 2 ^ i := by
        have : Nat.ble (((befores ops.toList [])[i]?).getD 0 + 1) (2 ^ i) = true := h1
        have := Nat.le_of_ble_eq_true this
        omega
      have : (((befores ops.toList [])[i]?).getD 0).testBit j = false := Nat.testBit_lt_two_pow (Nat.lt_of_lt_of_le hlt (Nat.pow_le_pow_right (by omega) h'))
      unfold Bef at hj
      rw [this] at hj; cases hj
  · have h3 := List.all_eq_true.1 h2 _ (hm j p hj)
    simp only [hd, Bool.or_eq_true, Bool.not_eq_true', List.contains_eq_mem, decide_eq_false_iff_not] at h3
    rcases h3 with ((h3 | h3) | h3) | h3
    · exact .inl (Nat.eq_of_beq_eq_true h3)
    · exact absurd hr h3
    · exact .inr (.inl h3)
    · exact .inr (.inr h3)

theorem put_get {fr fr' : Fr} {d : Option Nat} {v : Value} (hn : fr.n < 16000000) (h : fr.put d v = some fr') (i : Nat) : (d = some i → fr'.get i = v) ∧ (d ≠ some i → fr'.get i = fr.get i) := by
  cases d with
  | none => simp only [Fr.put, Option.some.injEq] at h; subst h; exact ⟨(fun h => (by cases h)), fun _ => rfl⟩
  | some d =>
    simp only [Fr.put] at h
    split at h
    · rename_i hd
      replace hd := blt_lt hd
      cases h
      refine ⟨fun h => ?_, fun h => ?_⟩
      · cases h; simp only [Fr.get]; rw [Tr.get_set _ _ _ (by omega)]; rfl
      · simp only [Fr.get]; rw [Tr.get_set_ne _ _ _ _ (fun e => h (by rw [e]))]
    · cases h

/-- the record, and what was looked at ahead -/
structure Rec (C : Ctx) (call : CallF) (ops : Array Oper) (fr0 : Fr) (s0 : AS) (D : Nat → DS) : Prop where
  step : ∀ (k : Nat) (o : Oper), ops[k]? = some o → drawStep C.E call ops.toList s0.next (befores ops.toList []) k o (D k) = some (D (k + 1))
  dsts : dstsOk ops.toList [] = true
  ord : orderOk ops.toList (befores ops.toList []) = true
  init : D 0 = { fr := fr0, st := { s0 with next := s0.next + ops.size }, pend := [], hist := [], seen := [] }
  room : s0.next + ops.size < 1000000
  small : fr0.n < 16000000

section
variable {C : Ctx} {call : CallF} {ops : Array Oper} {fr0 : Fr} {s0 : AS} {D : Nat → DS} (H : Rec C call ops fr0 s0 D)

def Eff (ops : Array Oper) (D : Nat → DS) (k : Nat) : Prop := ∃ o, ops[k]? = some o ∧ aWanted ops.toList (D k).fr o = true ∧ cls o.op = .eff
def Lays (C : Ctx) (ops : Array Oper) (D : Nat → DS) (k : Nat) (ob : AObj) (f : Nat → Value) : Prop := ∃ o, ops[k]? = some o ∧ aWanted ops.toList (D k).fr o = true ∧ cls o.op = .alloc ∧ aNew C.E (D k).fr o.op = some (ob, f)
def Merged (ops : Array Oper) (D : Nat → DS) (m k : Nat) : Prop := ∃ e, e < m ∧ Eff ops D e ∧ Bef ops e k

include H
theorem Rec.dc {k : Nat} {o : Oper} (ho : ops[k]? = some o) : ∃ v, (D k).fr.put o.dst v = some (D (k + 1)).fr ∧ DC C.E call ops.toList s0.next (((befores ops.toList [])[k]?).getD 0) k o (D k) (D (k + 1)) v :=
  drawStep_inv (H.step k o ho)

theorem Rec.at {k : Nat} (hk : k < ops.size) : ∃ o, ops[k]? = some o := ⟨ops[k], Array.getElem?_eq_getElem hk⟩

theorem Rec.frn : ∀ m, m ≤ ops.size → (D m).fr.n = fr0.n := by
  intro m
  induction m with
  | zero => intro _; rw [H.init]
  | succ m ih =>
    intro hm
    obtain ⟨o, ho⟩ := H.at (k := m) (by omega)
    obtain ⟨v, hp, _⟩ := H.dc ho
    rw [Fr.put_n hp]; exact ih (by omega)

theorem Rec.get_const (d : Nat) : ∀ (m m' : Nat), m ≤ m' → m' ≤ ops.size → (∀ (j : Nat) (o : Oper), m ≤ j → j < m' → ops[j]? = some o → o.dst ≠ some d) → (D m').fr.get d = (D m).fr.get d := by
  intro m m' hle
  induction hle with
  | refl => intro _ _; rfl
  | @step m'' hle ih =>
    intro hn hw
    have hle' : m ≤ m'' := hle
    obtain ⟨o, ho⟩ := H.at (k := m'') (by omega)
    obtain ⟨v, hp, _⟩ := H.dc ho
    have hs := H.small
    rw [(put_get (by rw [H.frn m'' (by omega)]; exact hs) hp d).2 (hw m'' o hle' (by omega) ho)]
    exact ih (by omega) (fun j o h1 h2 h3 => hw j o h1 (by omega) h3)

theorem Rec.uniq {i j : Nat} {o p : Oper} {d : Nat} (hi : ops[i]? = some o) (hj : ops[j]? = some p) (ho : o.dst = some d) (hp : p.dst = some d) : i = j :=
  (dstsOk_spec _ _ H.dsts).2 i j o p d (by rw [Array.getElem?_toList]; exact hi) (by rw [Array.getElem?_toList]; exact hj) ho hp

theorem Rec.get_before {j : Nat} {p : Oper} {d m : Nat} (hj : ops[j]? = some p) (hd : p.dst = some d) (hm : m ≤ j) : (D m).fr.get d = fr0.get d := by
  have hlt : j < ops.size := (Array.getElem?_eq_some_iff.1 hj).1
  rw [H.get_const d 0 m (by omega) (by omega) (fun i o _ hi ho hod => by have := H.uniq ho hj hod hd; omega), H.init]
theorem Rec.get_after {j : Nat} {p : Oper} {d m : Nat} (hj : ops[j]? = some p) (hd : p.dst = some d) (hm : j < m) (hn : m ≤ ops.size) : (D m).fr.get d = (D ops.size).fr.get d :=
  (H.get_const d m ops.size hn (Nat.le_refl _) (fun i o hi _ ho hod => by have := H.uniq ho hj hod hd; omega)).symm
theorem Rec.get_none {d m : Nat} (hw : ∀ (j : Nat) (p : Oper), ops[j]? = some p → p.dst ≠ some d) (hn : m ≤ ops.size) : (D m).fr.get d = fr0.get d := by
  rw [H.get_const d 0 m (by omega) hn (fun i o _ _ ho => hw i o ho), H.init]

/-! the memory in the record -/
theorem Rec.dc_noteff {k : Nat} (hk : k < ops.size) (he : ¬ Eff ops D k) : (D (k + 1)).st = (D k).st ∧ (D (k + 1)).hist = (D k).hist := by
  obtain ⟨o, ho⟩ := H.at hk
  obtain ⟨v, hp, hd⟩ := H.dc ho
  cases hd with
  | off h hv hd => rw [hd]; exact ⟨rfl, rfl⟩
  | pure h hc hv hd => rw [hd]; exact ⟨rfl, rfl⟩
  | read h hc hv hh hd => rw [hd]; exact ⟨rfl, rfl⟩
  | alloc h hc ob f hn hv hd => rw [hd]; exact ⟨rfl, rfl⟩
  | eff h hc st' hh hv hs hd => exact absurd ⟨o, ho, h, hc⟩ he

theorem Rec.st_const : ∀ (m m' : Nat), m ≤ m' → m' ≤ ops.size → (∀ e, m ≤ e → e < m' → ¬ Eff ops D e) → (D m').st = (D m).st := by
  intro m m' hle
  induction hle with
  | refl => intro _ _; rfl
  | @step m'' hle ih =>
    intro hn hw
    have hle' : m ≤ m'' := hle
    rw [(H.dc_noteff (k := m'') (by omega) (hw m'' hle' (by omega))).1]
    exact ih (by omega) (fun e h1 h2 => hw e h1 (by omega))

theorem Rec.hist {e : Nat} (he : Eff ops D e) : ∀ m, e < m → m ≤ ops.size → (e, (D e).st) ∈ (D m).hist := by
  intro m
  induction m with
  | zero => intro h; omega
  | succ m ih =>
    intro hlt hm
    obtain ⟨o, ho⟩ := H.at (k := m) (by omega)
    obtain ⟨v, hp, hd⟩ := H.dc ho
    by_cases e1 : e = m
    · subst e1
      obtain ⟨o', ho', hw, hc⟩ := he
      rw [ho] at ho'; cases ho'
      cases hd with
      | off h hv hd => rw [hw] at h; cases h
      | pure h hc' hv hd => rw [hc] at hc'; cases hc'
      | read h hc' hv hh hd => rw [hc] at hc'; cases hc'
      | alloc h hc' ob f hn hv hd => rw [hc] at hc'; cases hc'
      | eff h hc st' hh hv hs hd => rw [hd]; exact List.mem_cons_self
    · have h1 := ih (by omega) (by omega)
      cases hd with
      | off h hv hd => rw [hd]; exact h1
      | pure h hc hv hd => rw [hd]; exact h1
      | read h hc hv hh hd => rw [hd]; exact h1
      | alloc h hc ob f hn hv hd => rw [hd]; exact h1
      | eff h hc st' hh hv hs hd => rw [hd]; exact List.mem_cons_of_mem _ h1

theorem Rec.chain {e e' : Nat} (he : Eff ops D e) (he' : Eff ops D e') (hlt : e < e') : Bef ops e' e := by
  obtain ⟨o, ho, hw, hc⟩ := he'
  have hlt' : e' < ops.size := (Array.getElem?_eq_some_iff.1 ho).1
  have hm := H.hist he e' hlt (by omega)
  obtain ⟨v, hp, hd⟩ := H.dc ho
  cases hd with
  | off h hv hd => rw [hw] at h; cases h
  | pure h hc' hv hd => rw [hc] at hc'; cases hc'
  | read h hc' hv hh hd => rw [hc] at hc'; cases hc'
  | alloc h hc' ob f hn hv hd => rw [hc] at hc'; cases hc'
  | eff h hc st' hh hv hs hd => exact hh _ _ hm

/-- a read answers alike wherever it may stand -/
theorem Rec.seen {r : Nat} {o : Oper} {v : Value} (ho : ops[r]? = some o) (hw : aWanted ops.toList (D r).fr o = true) (hc : cls o.op = .read) (hv : (D r).fr.put o.dst v = some (D (r + 1)).fr)
    (hd : DC C.E call ops.toList s0.next (((befores ops.toList [])[r]?).getD 0) r o (D r) (D (r + 1)) v) : ∀ m, r < m → m ≤ ops.size → (r, (D r).fr, o.op, v) ∈ (D m).seen := by
  intro m
  induction m with
  | zero => intro h; omega
  | succ m ih =>
    intro hlt hm
    by_cases e1 : r = m
    · subst e1
      cases hd with
      | off h hv hd => rw [hw] at h; cases h
      | pure h hc' hv hd => rw [hc] at hc'; cases hc'
      | read h hc' hv hh hd => rw [hd]; exact List.mem_cons_self
      | alloc h hc' ob f hn hv hd => rw [hc] at hc'; cases hc'
      | eff h hc' st' hh hv hs hd => rw [hc] at hc'; cases hc'
    · have h1 := ih (by omega) (by omega)
      obtain ⟨o', ho'⟩ := H.at (k := m) (by omega)
      obtain ⟨v', hp', hd'⟩ := H.dc ho'
      cases hd' with
      | off h hv hd => rw [hd]; exact h1
      | pure h hc hv hd => rw [hd]; exact h1
      | read h hc hv hh hd => rw [hd]; exact List.mem_cons_of_mem _ h1
      | alloc h hc ob f hn hv hd => rw [hd]; exact h1
      | eff h hc st' hh hv hs hd => rw [hd]; exact h1

theorem Rec.read {r : Nat} {o : Oper} {v : Value} (ho : ops[r]? = some o) (hw : aWanted ops.toList (D r).fr o = true) (hc : cls o.op = .read) (hput : (D r).fr.put o.dst v = some (D (r + 1)).fr)
    (hd : DC C.E call ops.toList s0.next (((befores ops.toList [])[r]?).getD 0) r o (D r) (D (r + 1)) v) (m : Nat) (hm : m ≤ ops.size)
    (h1 : ∀ e, Eff ops D e → e < m → r ≤ e → ¬ Bef ops e r) (h2 : ∀ e, Eff ops D e → m ≤ e → e < r → ¬ Bef ops r e) : aQuiet C.E (D r).fr (D m).st o.op = some v := by
  have hr : r < ops.size := (Array.getElem?_eq_some_iff.1 ho).1
  have hself : aQuiet C.E (D r).fr (D r).st o.op = some v ∧ ∀ e s, (e, s) ∈ (D r).hist → (((befores ops.toList [])[r]?).getD 0).testBit e = false → aQuiet C.E (D r).fr s o.op = some v := by
    cases hd with
    | off h hv hd => rw [hw] at h; cases h
    | pure h hc' hv hd => rw [hc] at hc'; cases hc'
    | read h hc' hv hh hd => exact ⟨hv, hh⟩
    | alloc h hc' ob f hn hv hd => rw [hc] at hc'; cases hc'
    | eff h hc' st' hh hv hs hd => rw [hc] at hc'; cases hc'
  have hnot : ¬ Eff ops D r := by
    rintro ⟨o', ho', _, hc'⟩
    rw [ho] at ho'; cases ho'
    rw [hc] at hc'; cases hc'
  rcases Nat.le_total m r with hmr | hmr
  · -- down from r
    have key : ∀ k, m + k = r → aQuiet C.E (D r).fr (D m).st o.op = some v := by
      have gen : ∀ (k m : Nat), m + k = r → (∀ e, Eff ops D e → m ≤ e → e < r → ¬ Bef ops r e) → aQuiet C.E (D r).fr (D m).st o.op = some v := by
        intro k
        induction k with
        | zero => intro m hk _; have : m = r := by omega
                  subst this; exact hself.1
        | succ k ih =>
          intro m hk h2
          by_cases he : Eff ops D m
          · have := H.hist he r (by omega) (by omega)
            refine hself.2 m _ this ?_
            have h3 := h2 m he (Nat.le_refl _) (by omega)
            unfold Bef at h3
            simpa using h3
          · rw [← (H.dc_noteff (k := m) (by omega) he).1]
            exact ih (m + 1) (by omega) (fun e a b c => h2 e a (by omega) c)
      exact fun k hk => gen k m hk h2
    exact key (r - m) (by omega)
  · have gen : ∀ (m : Nat), r ≤ m → m ≤ ops.size → (∀ e, Eff ops D e → e < m → r ≤ e → ¬ Bef ops e r) → aQuiet C.E (D r).fr (D m).st o.op = some v := by
      intro m hle
      induction hle with
      | refl => intro _ _; exact hself.1
      | @step m' hle ih =>
        intro hm h1
        have hle' : r ≤ m' := hle
        by_cases he : Eff ops D m'
        · have hne : r ≠ m' := fun e => hnot (e ▸ he)
          have hs := H.seen ho hw hc hput hd m' (by omega) (by omega)
          have h3 := h1 m' he (by omega) hle'
          obtain ⟨o', ho', hw', hc'⟩ := he
          obtain ⟨v', hp', hd'⟩ := H.dc ho'
          cases hd' with
          | off h hv hd => rw [hw'] at h; cases h
          | pure h hc2 hv hd => rw [hc'] at hc2; cases hc2
          | read h hc2 hv hh hd => rw [hc'] at hc2; cases hc2
          | alloc h hc2 ob f hn hv hd => rw [hc'] at hc2; cases hc2
          | eff h hc2 st' hh hv hss hd =>
            rw [hd]
            refine hss _ _ _ _ hs ?_
            unfold Bef at h3
            simpa using h3
        · rw [(H.dc_noteff (k := m') (by omega) he).1]
          exact ih (by omega) (fun e a b c => h1 e a (by omega) c)
    exact gen m hmr hm h1

/-- what waits: laid, and not yet an object -/
theorem Rec.pend : ∀ m, m ≤ ops.size → (∀ k i o, (k, i, o) ∈ (D m).pend → k < m ∧ i = s0.next + k ∧ (∃ f, Lays C ops D k o f) ∧ ¬ Merged ops D m k) ∧ ((D m).pend.map (·.1)).Nodup := by
  intro m
  induction m with
  | zero => intro _; rw [H.init]; exact ⟨fun k i o h => by simp at h, by simp⟩
  | succ m ih =>
    intro hm
    obtain ⟨ih1, ih2⟩ := ih (by omega)
    obtain ⟨o, ho⟩ := H.at (k := m) (by omega)
    obtain ⟨v, hp, hd⟩ := H.dc ho
    have keep : ¬ Eff ops D m → ∀ k, ¬ Merged ops D m k → ¬ Merged ops D (m + 1) k := by
      rintro hne k hk ⟨e, h1, h2, h3⟩
      by_cases e1 : e = m
      · exact hne (e1 ▸ h2)
      · exact hk ⟨e, by omega, h2, h3⟩
    have ne : ∀ c, cls o.op = c → c ≠ .eff → ¬ Eff ops D m := by
      rintro c hc hne ⟨o', ho', _, hc'⟩
      rw [ho] at ho'; cases ho'
      rw [hc] at hc'; exact hne hc'
    cases hd with
    | off h hv hd =>
      rw [hd]
      have : ¬ Eff ops D m := by
        rintro ⟨o', ho', hw', _⟩
        rw [ho] at ho'; cases ho'
        rw [hw'] at h; cases h
      exact ⟨fun k i ob hk => let ⟨a, b, c, d⟩ := ih1 k i ob hk; ⟨by omega, b, c, keep this k d⟩, ih2⟩
    | pure h hc hv hd =>
      rw [hd]
      exact ⟨fun k i ob hk => let ⟨a, b, c, d⟩ := ih1 k i ob hk; ⟨by omega, b, c, keep (ne _ hc (by simp)) k d⟩, ih2⟩
    | read h hc hv hh hd =>
      rw [hd]
      exact ⟨fun k i ob hk => let ⟨a, b, c, d⟩ := ih1 k i ob hk; ⟨by omega, b, c, keep (ne _ hc (by simp)) k d⟩, ih2⟩
    | alloc h hc ob f hn hv hd =>
      rw [hd]
      refine ⟨fun k i ob' hk => ?_, ?_⟩
      · rcases List.mem_cons.1 hk with e | hk
        · cases e
          refine ⟨by omega, rfl, ⟨f, o, ho, h, hc, hn⟩, ?_⟩
          rintro ⟨e, h1, h2, h3⟩
          obtain ⟨oe, hoe, _⟩ := h2
          have := (orderOk_spec H.ord hoe).1 _ h3
          by_cases e1 : e = m
          · subst e1; omega
          · omega
        · obtain ⟨a, b, c, d⟩ := ih1 k i ob' hk
          exact ⟨by omega, b, c, keep (ne _ hc (by simp)) k d⟩
      · simp only [List.map_cons, List.nodup_cons]
        refine ⟨fun hm => ?_, ih2⟩
        obtain ⟨⟨k, i, ob'⟩, h1, h2⟩ := List.mem_map.1 hm
        simp only at h2; subst h2
        have := (ih1 k i ob' h1).1
        omega
    | eff h hc st' hh hv hs hd =>
      rw [hd]
      simp only [merge_fst]
      refine ⟨fun k i ob hk => ?_, ?_⟩
      · rw [List.mem_filter] at hk
        obtain ⟨hk, hb⟩ := hk
        obtain ⟨a, b, c, d⟩ := ih1 k i ob hk
        refine ⟨by omega, b, c, ?_⟩
        rintro ⟨e, h1, h2, h3⟩
        by_cases e1 : e = m
        · subst e1
          unfold Bef at h3
          simp only [h3] at hb; cases hb
        · exact d ⟨e, by omega, h2, h3⟩
      · exact List.Nodup.sublist (List.Sublist.map _ List.filter_sublist) ih2
end
end Go.Abs
set_option linter.unusedSectionVars false
namespace Go.Abs
open Go Go.RowKit
variable [Toks]
variable {ds : List Deferred}

section
variable {C : Ctx} {Φ : Ph} {s : AS} {w : World}

theorem Stp.lay {Φ0 : Ph} {s0 : AS} {w0 : World} (h : Stp Φ0 s0 w0 Φ s w) {i : Nat} {p : Pl} (hi : s0.next ≤ i) (hn : Φ i = none) (hp : p.b = w.heap.size) (o : Obj) : Stp Φ0 s0 w0 (Ph.set Φ i p) s (w.alloc o) := by
  refine ⟨h.ext.trans (Ph.ext_set p hn), h.nx, fun j q hj hlt => ?_, by have := h.sz; simp; omega, fun k hk hne => ?_, fun j ob q hj hq => ?_, h.dom⟩
  · rw [Ph.set_ne _ _ (by omega)] at hj; exact h.old j q hj hlt
  · have := h.sz
    rw [heap_alloc _ _ _ (by omega)]; exact h.out k hk hne
  · by_cases e : j = i
    · subst e; rw [Ph.set_same] at hq; cases hq
      have := h.sz
      exact .inl (by omega)
    · rw [Ph.set_ne _ _ e] at hq; exact h.img j ob q hj hq

theorem Stp.wake {Φ0 : Ph} {s0 : AS} {w0 : World} (h : Stp Φ0 s0 w0 Φ s w) {i : Nat} {p : Pl} (hi : s0.next ≤ i) (hp : Φ i = some p) (hb : w0.heap.size ≤ p.b) (ob : AObj) : Stp Φ0 s0 w0 Φ (s.put i ob) w := by
  have hg' : ∀ j, j ≠ i → (s.put i ob).heap.get j = s.heap.get j := fun j e => Tr.get_set_ne _ _ _ _ e
  refine ⟨h.ext, h.nx, h.old, h.sz, h.out, fun j o q hj hq => ?_, fun j o hlt hj => ?_⟩
  · by_cases e : j = i
    · subst e; rw [hp] at hq; cases hq; exact .inl hb
    · rw [hg' j e] at hj; exact h.img j o q hj hq
  · rw [hg' j (by omega)] at hj; exact h.dom j o hlt hj

/-- laid, and not yet an object -/
def Laid (C : Ctx) (Φ : Ph) (s : AS) (w0 w : World) (i : Nat) (ob : AObj) : Prop :=
  ∃ p c, Φ i = some p ∧ w0.heap.size ≤ p.b ∧ w.heap[p.b]? = some c ∧ OR C Φ p ob c ∧ ∀ j o q, s.heap.get j = some o → Φ j = some q → q.b ≠ p.b

theorem merge_ok {Φ0 : Ph} {s0 : AS} {w0 : World} (mask : Nat) (hR : Rel C Φ s w) (hS : Stp Φ0 s0 w0 Φ s w) : ∀ (l : List (Nat × Nat × AObj)), (∀ k i ob, (k, i, ob) ∈ l → mask.testBit k = true → i = s0.next + k ∧ Laid C Φ s w0 w i ob) → (l.map (·.1)).Nodup →
    (∀ k i ob k' i' ob' p p', (k, i, ob) ∈ l → (k', i', ob') ∈ l → mask.testBit k = true → mask.testBit k' = true → k ≠ k' → Φ i = some p → Φ i' = some p' → p.b ≠ p'.b) →
    Rel C Φ (merge mask l s).2 w ∧ Stp Φ0 s0 w0 Φ (merge mask l s).2 w ∧ (merge mask l s).2.next = s.next ∧
      ∀ j o, (merge mask l s).2.heap.get j = some o → s.heap.get j = some o ∨ ∃ k ob, (k, j, ob) ∈ l ∧ mask.testBit k = true := by
  intro l
  induction l with
  | nil => intro _ _ _; exact ⟨hR, hS, rfl, fun j o h => .inl h⟩
  | cons x l ih =>
    intro h1 h2 h3
    obtain ⟨k, i, ob⟩ := x
    simp only [List.map_cons, List.nodup_cons] at h2
    obtain ⟨r1, r2, r3, r4⟩ := ih (fun k i ob hm => h1 k i ob (List.mem_cons_of_mem _ hm)) h2.2 (fun k i ob k' i' ob' p p' hm hm' => h3 k i ob k' i' ob' p p' (List.mem_cons_of_mem _ hm) (List.mem_cons_of_mem _ hm'))
    simp only [merge]
    cases hb : mask.testBit k with
    | false =>
      simp only [Bool.false_eq_true, if_false]
      exact ⟨r1, r2, r3, fun j o h => (r4 j o h).imp id (fun ⟨k', ob', hm, hb'⟩ => ⟨k', ob', List.mem_cons_of_mem _ hm, hb'⟩)⟩
    | true =>
      simp only [if_true]
      obtain ⟨rfl, p, c, g1, g2, g3, g4, g5⟩ := h1 k i ob List.mem_cons_self hb
      have hd : ∀ j o q, j ≠ s0.next + k → (merge mask l s).2.heap.get j = some o → Φ j = some q → q.b ≠ p.b := by
        intro j o q hne hj hq
        rcases r4 j o hj with h | ⟨k', ob', hm, hb'⟩
        · exact g5 j o q h hq
        · have hk : k ≠ k' := fun e => h2.1 (by rw [e]; exact List.mem_map.2 ⟨_, hm, rfl⟩)
          exact fun e => h3 k _ ob k' j ob' p q List.mem_cons_self (List.mem_cons_of_mem _ hm) hb hb' hk g1 hq e.symm
      refine ⟨r1.wake g1 g3 g4 hd, r2.wake (by omega) g1 g2 ob, r3, fun j o h => ?_⟩
      by_cases e : j = s0.next + k
      · subst e; exact .inr ⟨k, ob, List.mem_cons_self, hb⟩
      · have : ((merge mask l s).2.put (s0.next + k) ob).heap.get j = (merge mask l s).2.heap.get j := Tr.get_set_ne _ _ _ _ e
        rw [this] at h
        exact (r4 j o h).imp id (fun ⟨k', ob', hm, hb'⟩ => ⟨k', ob', List.mem_cons_of_mem _ hm, hb'⟩)
end

def Has (listed : Array Bool) (k : Nat) : Prop := listed.getD k false = true
/-- slot d has been written -/
def Wrote (ops : Array Oper) (listed : Array Bool) (d : Nat) : Prop := ∃ (j : Nat) (p : Oper), Has listed j ∧ ops[j]? = some p ∧ p.dst = some d
open Classical in
noncomputable def valL (ops : Array Oper) (D : Nat → DS) (fr0 : Fr) (listed : Array Bool) (d : Nat) : Value := if Wrote ops listed d then (D ops.size).fr.get d else fr0.get d

/-- where a run in any order stands -/
structure J (ds : List Deferred) (C : Ctx) (ops : Array Oper) (fr0 : Fr) (s0 : AS) (Φ0 : Ph) (w0 : World) (D : Nat → DS) (m : Nat) (Φ : Ph) (listed : Array Bool) (a : Act) (w : World) : Prop where
  size : listed.size = ops.size
  closed : ∀ k, Has listed k → ∀ j, Bef ops k j → Has listed j
  mle : m ≤ ops.size
  effs : ∀ e, Eff ops D e → (Has listed e ↔ e < m)
  rel : Rel C Φ (D m).st w
  stp : Stp Φ0 s0 w0 Φ (D m).st w
  next : s0.next + ops.size ≤ (D m).st.next
  asz : a.tmps.size = fr0.n
  adf : a.defers = ds
  val : ∀ d, VR Φ (valL ops D fr0 listed d) (a.tmps.getD d undef)
  fresh : ∀ k, k < ops.size → ¬ Has listed k → Φ (s0.next + k) = none
  pend : ∀ k ob f, Lays C ops D k ob f → Has listed k → ¬ Merged ops D m k → Laid C Φ (D m).st w0 w (s0.next + k) ob
  apart : ∀ k ob f k' ob' f' p p', Lays C ops D k ob f → Has listed k → ¬ Merged ops D m k → Lays C ops D k' ob' f' → Has listed k' → ¬ Merged ops D m k' → k ≠ k' → Φ (s0.next + k) = some p → Φ (s0.next + k') = some p' → p.b ≠ p'.b

theorem Has.lt {listed : Array Bool} {k : Nat} (h : Has listed k) : k < listed.size := by
  unfold Has at h
  rcases Nat.lt_or_ge k listed.size with h' | h'
  · exact h'
  · simp [Array.getElem?_eq_none h'] at h
theorem has_set {listed : Array Bool} {i k : Nat} (hi : i < listed.size) : Has (listed.setIfInBounds i true) k ↔ k = i ∨ Has listed k := by
  unfold Has
  by_cases e : k = i
  · subst e; simp [hi]
  · simp [Array.getElem?_setIfInBounds_ne (Ne.symm e), e]

theorem VR.undef_of {Φ : Ph} {x : Value} (h : VR Φ x Go.undef) : x = Go.undef := by
  unfold Go.undef at h ⊢
  cases h with
  | flat _ h => rfl
  | tok k _ h => rcases Toks.plain _ _ h with ⟨_, _, h'⟩ | ⟨_, h'⟩ | ⟨_, h'⟩ | ⟨_, h'⟩ | ⟨_, _, _, h'⟩ <;> cases h'
  | tuple xs us l1 h1 =>
    cases xs with
    | nil => rfl
    | cons _ _ => simp at l1

section
variable {C : Ctx} (ok : POK C) {call : CallF} (hcall : CallOK C call) {ops : Array Oper} {fr0 : Fr} {s0 : AS} {Φ0 : Ph} {w0 : World} {D : Nat → DS} (H : Rec C call ops fr0 s0 D)
  {m : Nat} {Φ : Ph} {listed : Array Bool} {a : Act} {w : World}

/-- the frame as it is -/
noncomputable def frL (ops : Array Oper) (D : Nat → DS) (fr0 : Fr) (listed : Array Bool) : Fr := { n := fr0.n, t := Tr.ofList ((List.range fr0.n).map (valL ops D fr0 listed)) }

theorem frL_get (hs : fr0.n < 16000000) (hv : ∀ d, fr0.n ≤ d → valL ops D fr0 listed d = undef) (d : Nat) : (frL ops D fr0 listed).get d = valL ops D fr0 listed d := by
  unfold frL Fr.get
  simp only
  rcases Nat.lt_or_ge d fr0.n with h | h
  · rw [Tr.ofList_get (x := valL ops D fr0 listed d) (by simpa using hs) (by simp [h])]; rfl
  · rw [Tr.ofList_get_none (by simpa using hs) (by simp [h])]
    exact (hv d h).symm

include H in
theorem J.frame (hJ : J ds C ops fr0 s0 Φ0 w0 D m Φ listed a w) : FR ds Φ (frL ops D fr0 listed) a ∧ ∀ d, (frL ops D fr0 listed).get d = valL ops D fr0 listed d := by
  have hv : ∀ d, fr0.n ≤ d → valL ops D fr0 listed d = undef := by
    intro d hd
    have := hJ.val d
    rw [Array.getD_eq_getD_getElem?, Array.getElem?_eq_none (by rw [hJ.asz]; exact hd)] at this
    exact VR.undef_of this
  have hg := frL_get (ops := ops) (D := D) (listed := listed) H.small hv
  exact ⟨⟨hJ.asz, hJ.adf, fun i => by rw [hg]; exact hJ.val i⟩, hg⟩

/-- ready -/
def Rdy (ops : Array Oper) (listed : Array Bool) (k : Nat) : Prop := k < ops.size ∧ ¬ Has listed k ∧ ∀ j, Bef ops k j → Has listed j

theorem J.ready (hJ : J ds C ops fr0 s0 Φ0 w0 D m Φ listed a w) {k : Nat} (hk : k ∈ Region.ready .any ops listed) : Rdy ops listed k := by
  rw [mem_ready] at hk
  obtain ⟨h0, o, ho, hall⟩ := hk
  have hlt : k < ops.size := (Array.getElem?_eq_some_iff.1 ho).1
  refine ⟨hlt, ?_, fun j hj => ?_⟩
  · unfold Has
    have hk2 : k < listed.size := by rw [hJ.size]; exact hlt
    simp [hk2] at h0 ⊢
    exact h0
  · obtain ⟨e, hm, hb, hj⟩ := (bef_spec ho j).1 hj
    have he : Has listed e.on := hall e hm hb
    rcases hj with rfl | ⟨_, hj⟩
    · exact he
    · exact hJ.closed _ he j hj

include H in
theorem J.same (hJ : J ds C ops fr0 s0 Φ0 w0 D m Φ listed a w) {k : Nat} (hk : Rdy ops listed k) {o : Oper} (ho : ops[k]? = some o) : ∀ d ∈ readsOf ops.toList o, (frL ops D fr0 listed).get d = (D k).fr.get d := by
  intro d hd
  rw [(hJ.frame H).2 d]
  obtain ⟨hlt, hno, hb⟩ := hk
  obtain ⟨h1, h2⟩ := orderOk_spec H.ord ho
  unfold valL
  split
  · rename_i hw
    obtain ⟨j, p, hj, hp, hpd⟩ := hw
    rcases h2 j p d hp hpd hd with rfl | h3 | h3
    · exact absurd hj hno
    · exact (H.get_after hp hpd (h1 j h3) (by omega)).symm
    · exact absurd (hJ.closed j hj k h3) hno
  · rename_i hw
    by_cases hex : ∃ (j : Nat) (p : Oper), ops[j]? = some p ∧ p.dst = some d
    · obtain ⟨j, p, hp, hpd⟩ := hex
      have hnj : ¬ Has listed j := fun hj => hw ⟨j, p, hj, hp, hpd⟩
      rcases h2 j p d hp hpd hd with rfl | h3 | h3
      · exact (H.get_before hp hpd (Nat.le_refl _)).symm
      · exact absurd (hb j h3) hnj
      · have := (orderOk_spec H.ord hp).1 k h3
        exact (H.get_before hp hpd (by omega)).symm
    · exact (H.get_none (fun j p hp hpd => hex ⟨j, p, hp, hpd⟩) (by omega)).symm

theorem tmps_reads {o : Oper} {d : Nat} (h : d ∈ tmpsOf o.op) : d ∈ readsOf ops.toList o := List.mem_append_left _ h

/-- the record's position may be moved where no effect lies between -/
theorem J.move (H : Rec C call ops fr0 s0 D) (hJ : J ds C ops fr0 s0 Φ0 w0 D m Φ listed a w) {k : Nat} (hmk : m ≤ k) (hk : k ≤ ops.size) (hno : ∀ e, Eff ops D e → m ≤ e → e < k → False) : J ds C ops fr0 s0 Φ0 w0 D k Φ listed a w := by
  have hst : (D k).st = (D m).st := H.st_const m k hmk hk (fun e h1 h2 h3 => hno e h3 h1 h2)
  have hmg : ∀ j, ¬ Merged ops D k j → ¬ Merged ops D m j := fun j h ⟨e, h1, h2, h3⟩ => h ⟨e, by omega, h2, h3⟩
  refine ⟨hJ.size, hJ.closed, hk, fun e he => ?_, by rw [hst]; exact hJ.rel, by rw [hst]; exact hJ.stp, by rw [hst]; exact hJ.next, hJ.asz, hJ.adf, hJ.val, hJ.fresh, ?_, ?_⟩
  · rw [hJ.effs e he]
    constructor
    · intro h; omega
    · intro h
      rcases Nat.lt_or_ge e m with h' | h'
      · exact h'
      · exact (hno e he h' h).elim
  · intro j ob f h1 h2 h3
    rw [hst]; exact hJ.pend j ob f h1 h2 (hmg j h3)
  · intro j ob f j' ob' f' p p' h1 h2 h3 h4 h5 h6
    exact hJ.apart j ob f j' ob' f' p p' h1 h2 (hmg j h3) h4 h5 (hmg j' h6)

/-- after an operation's value is put -/
theorem J.put (H : Rec C call ops fr0 s0 D) (hJ : J ds C ops fr0 s0 Φ0 w0 D m Φ listed a w) {k : Nat} (hk : Rdy ops listed k) {o : Oper} (ho : ops[k]? = some o) {v u : Value} (hp : (D k).fr.put o.dst v = some (D (k + 1)).fr)
    {m' : Nat} {Φ' : Ph} {w' : World} (he : Ext Φ Φ') (hv : VR Φ' v u) (hm : m' ≤ ops.size) (h1 : ∀ e, Eff ops D e → (e = k ∨ Has listed e ↔ e < m')) (h2 : Rel C Φ' (D m').st w') (h3 : Stp Φ0 s0 w0 Φ' (D m').st w') (h4 : s0.next + ops.size ≤ (D m').st.next)
    (h5 : ∀ j, j < ops.size → j ≠ k → ¬ Has listed j → Φ' (s0.next + j) = none)
    (h6 : ∀ j ob f, Lays C ops D j ob f → (j = k ∨ Has listed j) → ¬ Merged ops D m' j → Laid C Φ' (D m').st w0 w' (s0.next + j) ob)
    (h7 : ∀ j ob f j' ob' f' p p', Lays C ops D j ob f → (j = k ∨ Has listed j) → ¬ Merged ops D m' j → Lays C ops D j' ob' f' → (j' = k ∨ Has listed j') → ¬ Merged ops D m' j' → j ≠ j' → Φ' (s0.next + j) = some p → Φ' (s0.next + j') = some p' → p.b ≠ p'.b) :
    J ds C ops fr0 s0 Φ0 w0 D m' Φ' (listed.setIfInBounds k true) (a.put o.dst u) w' := by
  obtain ⟨hlt, hno, hb⟩ := hk
  have hlt2 : k < listed.size := by rw [hJ.size]; exact hlt
  have hs : ∀ j, Has (listed.setIfInBounds k true) j ↔ j = k ∨ Has listed j := fun j => has_set hlt2
  have hn : (D k).fr.n < 16000000 := by rw [H.frn k (by omega)]; exact H.small
  refine ⟨by simpa using hJ.size, ?_, hm, fun e hE => by rw [hs]; exact h1 e hE, h2, h3, h4, ?_, ?_, ?_, ?_, ?_, ?_⟩
  · intro j hj i hi
    rw [hs] at hj ⊢
    rcases hj with rfl | hj
    · exact .inr (hb i hi)
    · exact .inr (hJ.closed j hj i hi)
  · cases hd : o.dst <;> simp [Act.put, hJ.asz]
  · cases hd : o.dst <;> simp [Act.put, hJ.adf]
  · intro d
    by_cases hd : o.dst = some d
    · have hw : Wrote ops (listed.setIfInBounds k true) d := ⟨k, o, (hs k).2 (.inl rfl), ho, hd⟩
      unfold valL
      rw [if_pos hw]
      have hg : (D ops.size).fr.get d = v := by
        rw [← H.get_after ho hd (m := k + 1) (by omega) (by omega)]
        exact (put_get hn hp d).1 hd
      rw [hg]
      have hdn : d < fr0.n := by
        rw [hd] at hp
        simp only [Fr.put] at hp
        split at hp
        · rename_i h'; replace h' := blt_lt h'; rw [H.frn k (by omega)] at h'; exact h'
        · cases hp
      have : (a.put o.dst u).tmps.getD d undef = u := by
        rw [hd]
        simp [Act.put, Array.getD_eq_getD_getElem?, hJ.asz, hdn]
      rw [this]; exact hv
    · have hval : valL ops D fr0 (listed.setIfInBounds k true) d = valL ops D fr0 listed d := by
        have : Wrote ops (listed.setIfInBounds k true) d ↔ Wrote ops listed d := by
          constructor
          · rintro ⟨j, p, hj, hp', hpd⟩
            rcases (hs j).1 hj with rfl | hj
            · rw [ho] at hp'; cases hp'; exact absurd hpd hd
            · exact ⟨j, p, hj, hp', hpd⟩
          · rintro ⟨j, p, hj, hp', hpd⟩
            exact ⟨j, p, (hs j).2 (.inr hj), hp', hpd⟩
        unfold valL
        by_cases hw : Wrote ops listed d
        · rw [if_pos hw, if_pos (this.2 hw)]
        · rw [if_neg hw, if_neg (fun h => hw (this.1 h))]
      rw [hval]
      have : (a.put o.dst u).tmps.getD d undef = a.tmps.getD d undef := by
        cases hd' : o.dst with
        | none => rfl
        | some e =>
          have hne : e ≠ d := fun h => hd (by rw [hd', h])
          simp [Act.put, Array.getD_eq_getD_getElem?, Array.getElem?_setIfInBounds_ne hne]
      rw [this]; exact (hJ.val d).mono he
  · intro j hj hnj
    rw [hs] at hnj
    exact h5 j hj (fun e => hnj (.inl e)) (fun e => hnj (.inr e))
  · intro j ob f g1 g2 g3
    rw [hs] at g2
    exact h6 j ob f g1 g2 g3
  · intro j ob f j' ob' f' p p' g1 g2 g3 g4 g5 g6
    rw [hs] at g2 g5
    exact h7 j ob f j' ob' f' p p' g1 g2 g3 g4 g5 g6
end
end Go.Abs
set_option linter.unusedSectionVars false
namespace Go.Abs
open Go Go.RowKit
variable [Toks]
variable {ds : List Deferred}

section
variable {C : Ctx} (ok : POK C) {call : CallF} (hcall : CallOK C call) {ops : Array Oper} {fr0 : Fr} {s0 : AS} {Φ0 : Ph} {w0 : World} {D : Nat → DS} (H : Rec C call ops fr0 s0 D)
  {m : Nat} {Φ : Ph} {listed : Array Bool} {a : Act} {w : World}

theorem Lays.det {k : Nat} {ob ob' : AObj} {f f' : Nat → Value} (h : Lays C ops D k ob f) (h' : Lays C ops D k ob' f') : ob = ob' := by
  obtain ⟨o, h1, _, _, h4⟩ := h
  obtain ⟨o', g1, _, _, g4⟩ := h'
  rw [h1] at g1; cases g1
  rw [h4] at g4; cases g4; rfl
theorem Lays.lt {k : Nat} {ob : AObj} {f : Nat → Value} (h : Lays C ops D k ob f) : k < ops.size := by
  obtain ⟨o, h1, _⟩ := h
  exact (Array.getElem?_eq_some_iff.1 h1).1
theorem Eff.lt {k : Nat} (h : Eff ops D k) : k < ops.size := by
  obtain ⟨o, h1, _⟩ := h
  exact (Array.getElem?_eq_some_iff.1 h1).1
theorem Lays.not_eff {k : Nat} {ob : AObj} {f : Nat → Value} (h : Lays C ops D k ob f) : ¬ Eff ops D k := by
  obtain ⟨o, h1, _, h3, _⟩ := h
  rintro ⟨o', g1, _, g3⟩
  rw [h1] at g1; cases g1
  rw [h3] at g3; cases g3

/-- a step that leaves the memory -/
theorem J.quiet (H : Rec C call ops fr0 s0 D) (hJ : J ds C ops fr0 s0 Φ0 w0 D m Φ listed a w) {k : Nat} (hk : Rdy ops listed k) {o : Oper} (ho : ops[k]? = some o) {v u : Value} (hp : (D k).fr.put o.dst v = some (D (k + 1)).fr)
    (hv : VR Φ v u) (hne : ¬ Eff ops D k) (hnl : ∀ ob f, ¬ Lays C ops D k ob f) : J ds C ops fr0 s0 Φ0 w0 D m Φ (listed.setIfInBounds k true) (a.put o.dst u) w := by
  refine hJ.put H hk ho hp (Ext.refl _) hv hJ.mle (fun e he => ?_) hJ.rel hJ.stp hJ.next (fun j hj _ hn => hJ.fresh j hj hn) ?_ ?_
  · rw [← hJ.effs e he]
    exact ⟨fun h => h.resolve_left (fun e1 => hne (e1 ▸ he)), .inr⟩
  · intro j ob f h1 h2 h3
    exact hJ.pend j ob f h1 (h2.resolve_left (fun e => hnl ob f (e ▸ h1))) h3
  · intro j ob f j' ob' f' p p' h1 h2 h3 h4 h5 h6
    exact hJ.apart j ob f j' ob' f' p p' h1 (h2.resolve_left (fun e => hnl ob f (e ▸ h1))) h3 h4 (h5.resolve_left (fun e => hnl ob' f' (e ▸ h4))) h6

include ok hcall H in
theorem J.op (hJ : J ds C ops fr0 s0 Φ0 w0 D m Φ listed a w) {k : Nat} (hk : Rdy ops listed k) {Q : Exit → Act → World → Prop} {K : Act → World → Prop}
    (hK : ∀ m' Φ' a' w', J ds C ops fr0 s0 Φ0 w0 D m' Φ' (listed.setIfInBounds k true) a' w' → K a' w') : wpOp C.P ops Q k K a w := by
  obtain ⟨o, ho⟩ := H.at hk.1
  obtain ⟨v, hp, hd⟩ := H.dc ho
  obtain ⟨hF, hget⟩ := hJ.frame H
  have hsame := hJ.same H hk ho
  have hso : SameIn (frL ops D fr0 listed) (D k).fr o.op := sameIn_of (fun d hd => hsame d (tmps_reads hd))
  have hwant : Region.wanted o (yielded ops a.tmps) = aWanted ops.toList (D k).fr o := by
    rw [wanted_ok (Φ := Φ) (fr := frL ops D fr0 listed) (fun d _ => hF.val d) (by rw [gOk_congr hsame]; exact drawStep_gok (H.step k o ho))]
    exact aWanted_congr hsame
  unfold wpOp
  rw [ho]
  simp only
  rw [hwant]
  -- what runs with the memory as it is
  have quiet : aWanted ops.toList (D k).fr o = true → (cls o.op = .pure ∨ cls o.op = .read) → aQuiet C.E (frL ops D fr0 listed) (D m).st o.op = some v → o.wp C.P a w K Q := by
    intro hw hc hq
    obtain ⟨v', r1, r2⟩ := quiet_ok ok hJ.rel hF hq o rfl
    refine oper_of_value r1 (hK m Φ _ _ (hJ.quiet H hk ho hp r2 ?_ ?_))
    · rintro ⟨o', ho', _, hc'⟩
      rw [ho] at ho'; cases ho'
      rcases hc with hc | hc <;> (rw [hc] at hc'; cases hc')
    · rintro ob f ⟨o', ho', _, hc', _⟩
      rw [ho] at ho'; cases ho'
      rcases hc with hc | hc <;> (rw [hc] at hc'; cases hc')
  cases hd with
  | off h hv hd =>
    subst hv
    rw [h]
    simp only [Bool.false_eq_true, if_false]
    refine hK m Φ _ _ (hJ.quiet H hk ho hp (.undef Φ) ?_ ?_)
    · rintro ⟨o', ho', hw', _⟩
      rw [ho] at ho'; cases ho'
      rw [h] at hw'; cases hw'
    · rintro ob f ⟨o', ho', hw', _⟩
      rw [ho] at ho'; cases ho'
      rw [h] at hw'; cases hw'
  | pure h hc hv hd =>
    rw [h]
    simp only [if_true]
    refine .inl (quiet h (.inl hc) ?_)
    rw [aQuiet_congr hso, pure_indep hc (s' := { heap := .nil, next := 0 })]
    exact hv
  | read h hc hv hh hd =>
    rw [h]
    simp only [if_true]
    refine .inl (quiet h (.inr hc) ?_)
    rw [aQuiet_congr hso]
    refine H.read ho h hc hp (.read h hc hv hh hd) m hJ.mle ?_ ?_
    · intro e he hem _ hb
      exact hk.2.1 (hJ.closed e ((hJ.effs e he).2 hem) k hb)
    · intro e he hme _ hb
      have := (hJ.effs e he).1 (hk.2.2 e hb)
      omega
  | alloc h hc ob f hn hv hd =>
    rw [h]
    simp only [if_true]
    subst hv
    have hn' : aNew C.E (frL ops D fr0 listed) o.op = some (ob, f) := by rw [aNew_congr hso]; exact hn
    obtain ⟨obj, n, z, u, r1, r2⟩ := new_ok ok hF hn' o rfl w
    have hfr := hJ.fresh k hk.1 hk.2.1
    have hbase := hJ.next
    have hlt : s0.next + k < (D m).st.next := by have := hk.1; omega
    have hdead : (D m).st.heap.get (s0.next + k) = none := by
      cases e : (D m).st.heap.get (s0.next + k) with
      | none => rfl
      | some o' =>
        obtain ⟨p, _, h1, _⟩ := hJ.rel.obj _ _ e
        rw [hfr] at h1; cases h1
    have hext : Ext Φ (Ph.set Φ (s0.next + k) ⟨w.heap.size, n, z⟩) := Ph.ext_set _ hfr
    have hself := Ph.set_same Φ (s0.next + k) ⟨w.heap.size, n, z⟩
    obtain ⟨r3, r4⟩ := r2 _ _ hext hself
    have hlay : Lays C ops D k ob f := ⟨o, ho, h, hc, hn⟩
    have hold : ∀ j q, j ≠ k → Ph.set Φ (s0.next + k) ⟨w.heap.size, n, z⟩ (s0.next + j) = some q → Φ (s0.next + j) = some q := by
      intro j q hj hq
      rw [Ph.set_ne _ _ (by omega)] at hq; exact hq
    have hw0 := hJ.stp.sz
    refine .inl (oper_of_value r1 (hK m _ _ _ (hJ.put H hk ho hp hext r4 hJ.mle (fun e he => ?_) (hJ.rel.lay hlt hfr hdead obj _ rfl) (hJ.stp.lay (by omega) hfr rfl obj) hJ.next (fun j hj hjk hnj => ?_) ?_ ?_)))
    · rw [← hJ.effs e he]
      exact ⟨fun h => h.resolve_left (fun e1 => hlay.not_eff (e1 ▸ he)), .inr⟩
    · rw [Ph.set_ne _ _ (by omega)]; exact hJ.fresh j hj hnj
    · intro j ob' f' h1 h2 h3
      by_cases e : j = k
      · subst e
        have := hlay.det h1
        subst this
        refine ⟨_, obj, hself, by show w0.heap.size ≤ w.heap.size; omega, heap_alloc_new w obj, r3, fun i o' q hi hq => ?_⟩
        by_cases e2 : i = s0.next + j
        · rw [e2, hdead] at hi; cases hi
        · rw [Ph.set_ne _ _ e2] at hq
          have := (hJ.rel.lt i q hq).2
          show q.b ≠ w.heap.size
          omega
      · obtain ⟨p, c, g1, g2, g3, g4, g5⟩ := hJ.pend j ob' f' h1 (h2.resolve_left e) h3
        refine ⟨p, c, hext _ _ g1, g2, ?_, g4.mono hext, fun i o' q hi hq => ?_⟩
        · rw [heap_alloc _ _ _ (hJ.rel.lt _ p g1).2]; exact g3
        · by_cases e2 : i = s0.next + k
          · rw [e2, hdead] at hi; cases hi
          · rw [Ph.set_ne _ _ e2] at hq; exact g5 i o' q hi hq
    · intro j ob' f' j' ob'' f'' p p' h1 h2 h3 h4 h5 h6 hjj hp1 hp2
      by_cases e : j = k
      · subst e
        rw [hself] at hp1; cases hp1
        have := hold j' p' (fun e => hjj e.symm) hp2
        have := (hJ.rel.lt _ p' this).2
        show w.heap.size ≠ p'.b
        omega
      · by_cases e' : j' = k
        · subst e'
          rw [hself] at hp2; cases hp2
          have := hold j p e hp1
          have := (hJ.rel.lt _ p this).2
          show p.b ≠ w.heap.size
          omega
        · exact hJ.apart j ob' f' j' ob'' f'' p p' h1 (h2.resolve_left e) h3 h4 (h5.resolve_left e') h6 hjj (hold j p e hp1) (hold j' p' e' hp2)
  | eff h hc st' hh hv hs hd =>
    rw [h]
    simp only [if_true]
    have hE : Eff ops D k := ⟨o, ho, h, hc⟩
    -- all effects ahead are done, none behind
    have hmk : m ≤ k := by
      rcases Nat.lt_or_ge k m with h' | h'
      · exact absurd ((hJ.effs k hE).2 h') hk.2.1
      · exact h'
    have hJ' : J ds C ops fr0 s0 Φ0 w0 D k Φ listed a w := hJ.move H hmk (by have := hk.1; omega) (fun e he h1 h2 => by
      have := (hJ.effs e he).1 (hk.2.2 e (H.chain he hE h2))
      omega)
    obtain ⟨pd1, pd2⟩ := H.pend k (by have := hk.1; omega)
    have hinf : ∀ j i ob, (j, i, ob) ∈ (D k).pend → (((befores ops.toList [])[k]?).getD 0).testBit j = true → i = s0.next + j ∧ Laid C Φ (D k).st w0 w i ob ∧ ∃ f, Lays C ops D j ob f ∧ Has listed j ∧ ¬ Merged ops D k j := by
      intro j i ob hm hb
      obtain ⟨g1, g2, ⟨f, g3⟩, g4⟩ := pd1 j i ob hm
      have hj : Has listed j := hk.2.2 j hb
      subst g2
      exact ⟨rfl, hJ'.pend j ob f g3 hj g4, f, g3, hj, g4⟩
    obtain ⟨m1, m2, m3, m4⟩ := merge_ok (((befores ops.toList [])[k]?).getD 0) hJ'.rel hJ'.stp (D k).pend (fun j i ob hm hb => ⟨(hinf j i ob hm hb).1, (hinf j i ob hm hb).2.1⟩) pd2 (by
      intro j i ob j' i' ob' p p' hm hm' hb hb' hne hp1 hp2
      obtain ⟨rfl, _, f, g1, g2, g3⟩ := hinf j i ob hm hb
      obtain ⟨rfl, _, f', g1', g2', g3'⟩ := hinf j' i' ob' hm' hb'
      exact hJ'.apart j ob f j' ob' f' p p' g1 g2 g3 g1' g2' g3' hne hp1 hp2)
    have hst' : (D (k + 1)).st = st' := by rw [hd]
    have hv' : aOper C.E call (frL ops D fr0 listed) (merge (((befores ops.toList [])[k]?).getD 0) (D k).pend (D k).st).2 o.op = some (v, st') := by rw [aOper_congr hso]; exact hv
    refine .inl (oper_ok ok hcall m1 hF hv' fun u w' Φ' r1 r2 r3 => ?_)
    have hnx := r3.nx
    rw [m3] at hnx
    have hbase := hJ'.next
    have hsub : ∀ j, ¬ Merged ops D (k + 1) j → ¬ Merged ops D k j ∧ ¬ Bef ops k j := fun j hj => ⟨fun ⟨e, h1, h2, h3⟩ => hj ⟨e, by omega, h2, h3⟩, fun hb => hj ⟨k, by omega, hE, hb⟩⟩
    have hold : ∀ j q, j < ops.size → Φ' (s0.next + j) = some q → Φ (s0.next + j) = some q := fun j q hj hq => r3.old _ q hq (by rw [m3]; omega)
    have hlive : ∀ j, Has listed j → ¬ Merged ops D (k + 1) j → ∀ ob f, Lays C ops D j ob f → ∀ p, Φ (s0.next + j) = some p → (∀ i o' q, (D k).st.heap.get i = some o' → Φ i = some q → q.b ≠ p.b) →
        ∀ i o' q, (merge (((befores ops.toList [])[k]?).getD 0) (D k).pend (D k).st).2.heap.get i = some o' → Φ i = some q → q.b ≠ p.b := by
      intro j hj hm ob f hl p hp0 hfree i o' q hi hq
      obtain ⟨hm1, hm2⟩ := hsub j hm
      rcases m4 i o' hi with h' | ⟨j', ob', hm', hb'⟩
      · exact hfree i o' q h' hq
      · obtain ⟨rfl, _, f', g1, g2, g3⟩ := hinf j' i ob' hm' hb'
        have hne : j ≠ j' := fun e => hm2 (by subst e; exact hb')
        exact fun e => hJ'.apart j ob f j' ob' f' p q hl hj hm1 g1 g2 g3 hne hp0 hq e.symm
    refine hK (k + 1) Φ' _ _ (hJ'.put H hk ho hp r3.ext r1 (by have := hk.1; omega) (fun e he => ?_) (by rw [hst']; exact r2) (by rw [hst']; exact m2.trans r3) (by rw [hst']; omega) (fun j hj hjk hnj => ?_) ?_ ?_)
    · have := hJ'.effs e he
      constructor
      · rintro (h' | h')
        · omega
        · have := this.1 h'; omega
      · intro h'
        by_cases e1 : e = k
        · exact .inl e1
        · exact .inr (this.2 (by omega))
    · cases hq : Φ' (s0.next + j) with
      | none => rfl
      | some q =>
        have := hold j q hj hq
        rw [hJ'.fresh j hj hnj] at this; cases this
    · intro j ob f h1 h2 h3
      have hjk : j ≠ k := fun e => h1.not_eff (e ▸ hE)
      have hj := h2.resolve_left hjk
      obtain ⟨hm1, hm2⟩ := hsub j h3
      obtain ⟨p, c, g1, g2, g3, g4, g5⟩ := hJ'.pend j ob f h1 hj hm1
      have hfree := hlive j hj h3 ob f h1 p g1 g5
      refine ⟨p, c, r3.ext _ _ g1, g2, ?_, g4.mono r3.ext, fun i o' q hi hq => ?_⟩
      · rw [r3.out p.b (hJ'.rel.lt _ p g1).2 (fun i o' q hi hq => hfree i o' q hi hq)]; exact g3
      · rw [hst'] at hi
        rcases r3.img i o' q hi hq with h' | ⟨i', o2, q', h1', h2', h3'⟩
        · have := (hJ'.rel.lt _ p g1).2; omega
        · rw [← h3']; exact hfree i' o2 q' h1' h2'
    · intro j ob f j' ob' f' p p' h1 h2 h3 h4 h5 h6 hne hp1 hp2
      have hjk : j ≠ k := fun e => h1.not_eff (e ▸ hE)
      have hjk' : j' ≠ k := fun e => h4.not_eff (e ▸ hE)
      exact hJ'.apart j ob f j' ob' f' p p' h1 (h2.resolve_left hjk) (hsub j h3).1 h4 (h5.resolve_left hjk') (hsub j' h6).1 hne (hold j p h1.lt hp1) (hold j' p' h4.lt hp2)

/-- how many are left -/
def left (ops : Array Oper) (listed : Array Bool) : Nat := ((List.range ops.size).filter (fun i => !listed.getD i false)).length

theorem left_set (hs : listed.size = ops.size) {k : Nat} (hk : k < ops.size) (hn : ¬ Has listed k) : left ops (listed.setIfInBounds k true) < left ops listed := by
  unfold left
  have h1 : (List.range ops.size).filter (fun i => !(listed.setIfInBounds k true).getD i false) = ((List.range ops.size).filter (fun i => !listed.getD i false)).filter (fun i => decide (i ≠ k)) := by
    rw [List.filter_filter]
    apply List.filter_congr
    intro i _
    have := has_set (listed := listed) (i := k) (k := i) (by omega)
    unfold Has at this
    by_cases e : i = k
    · subst e
      have h2 := this.2 (.inl rfl)
      simp only [h2]; simp
    · cases h3 : listed.getD i false with
      | true => rw [this.2 (.inr h3)]; simp
      | false =>
        have : (listed.setIfInBounds k true).getD i false = false := by
          cases h4 : (listed.setIfInBounds k true).getD i false with
          | false => rfl
          | true => rcases this.1 h4 with h5 | h5
                    · exact absurd h5 e
                    · rw [h3] at h5; cases h5
        rw [this]; simp [e]
  rw [h1]
  apply List.length_filter_lt_length_iff_exists.2
  refine ⟨k, ?_, by simp⟩
  rw [List.mem_filter]
  refine ⟨by simp [hk], ?_⟩
  unfold Has at hn
  simpa using hn

theorem all_listed (H : Rec C call ops fr0 s0 D) (hs : listed.size = ops.size) (hr : Region.ready .any ops listed = []) : ∀ k, k < ops.size → Has listed k := by
  intro k
  induction k using Nat.strongRecOn with
  | _ k ih =>
    intro hk
    cases hh : listed.getD k false with
    | true => exact hh
    | false =>
      exfalso
      obtain ⟨o, ho⟩ := H.at hk
      have : k ∈ Region.ready .any ops listed := by
        rw [mem_ready]
        refine ⟨?_, o, ho, fun e hm hb => ?_⟩
        · have hk2 : k < listed.size := by omega
          simp [hk2] at hh ⊢
          exact hh
        · have hb' : Bef ops k e.on := (bef_spec ho e.on).2 ⟨e, hm, hb, .inl rfl⟩
          have hlt := (orderOk_spec H.ord ho).1 _ hb'
          exact ih e.on hlt (by omega)
      rw [hr] at this; cases this

/-- where all is done -/
theorem J.done (H : Rec C call ops fr0 s0 D) (hJ : J ds C ops fr0 s0 Φ0 w0 D m Φ listed a w) (hall : ∀ k, k < ops.size → Has listed k) :
    FR ds Φ (D ops.size).fr a ∧ Rel C Φ (merge (2 ^ ops.size - 1) (D ops.size).pend (D ops.size).st).2 w ∧ Stp Φ0 s0 w0 Φ (merge (2 ^ ops.size - 1) (D ops.size).pend (D ops.size).st).2 w := by
  have hJ' := hJ.move H hJ.mle (Nat.le_refl _) (fun e he h1 h2 => by have := (hJ.effs e he).1 (hall e h2); omega)
  obtain ⟨pd1, pd2⟩ := H.pend ops.size (Nat.le_refl _)
  obtain ⟨m1, m2, m3, m4⟩ := merge_ok (2 ^ ops.size - 1) hJ'.rel hJ'.stp (D ops.size).pend (fun j i ob hm _ => by
    obtain ⟨g1, g2, ⟨f, g3⟩, g4⟩ := pd1 j i ob hm
    subst g2
    exact ⟨rfl, hJ'.pend j ob f g3 (hall j g1) g4⟩) pd2 (by
    intro j i ob j' i' ob' p p' hm hm' _ _ hne hp1 hp2
    obtain ⟨g1, rfl, ⟨f, g3⟩, g4⟩ := pd1 j i ob hm
    obtain ⟨g1', rfl, ⟨f', g3'⟩, g4'⟩ := pd1 j' i' ob' hm'
    exact hJ'.apart j ob f j' ob' f' p p' g3 (hall j g1) g4 g3' (hall j' g1') g4' hne hp1 hp2)
  refine ⟨⟨by rw [H.frn _ (Nat.le_refl _)]; exact hJ'.asz, hJ'.adf, fun d => ?_⟩, m1, m2⟩
  have := hJ'.val d
  unfold valL at this
  split at this
  · exact this
  · rename_i hw
    rw [H.get_none (fun j p hp hpd => hw ⟨j, p, hall j (Array.getElem?_eq_some_iff.1 hp).1, hp, hpd⟩) (Nat.le_refl _)]
    exact this

include ok hcall H in
theorem draw_any {Q : Exit → Act → World → Prop}
    (hQ : ∀ Φ a w, FR ds Φ (D ops.size).fr a → Rel C Φ (merge (2 ^ ops.size - 1) (D ops.size).pend (D ops.size).st).2 w → Stp Φ0 s0 w0 Φ (merge (2 ^ ops.size - 1) (D ops.size).pend (D ops.size).st).2 w → Q .normal a w) :
    ∀ (fuel : Nat) (m : Nat) (Φ : Ph) (listed : Array Bool) (a : Act) (w : World), J ds C ops fr0 s0 Φ0 w0 D m Φ listed a w → left ops listed ≤ fuel → wpAny C.P .any ops Q fuel listed a w := by
  intro fuel
  induction fuel with
  | zero =>
    intro m Φ listed a w hJ hl
    have hall : ∀ k, k < ops.size → Has listed k := by
      intro k hk
      cases hh : listed.getD k false with
      | true => exact hh
      | false =>
        exfalso
        have : k ∈ (List.range ops.size).filter (fun i => !listed.getD i false) := by
          rw [List.mem_filter]; exact ⟨by simp [hk], by rw [hh]; rfl⟩
        have := List.length_pos_of_mem this
        unfold left at hl
        omega
    refine ⟨?_, ?_⟩
    · apply List.eq_nil_iff_forall_not_mem.2
      intro k hk
      have := hJ.ready hk
      exact this.2.1 (hall k this.1)
    · obtain ⟨h1, h2, h3⟩ := hJ.done H hall
      exact hQ Φ a w h1 h2 h3
  | succ fuel ih =>
    intro m Φ listed a w hJ hl
    refine ⟨fun hr => ?_, fun k hk => ?_⟩
    · obtain ⟨h1, h2, h3⟩ := hJ.done H (all_listed H hJ.size hr)
      exact hQ Φ a w h1 h2 h3
    · have hk' := hJ.ready hk
      refine hJ.op ok hcall H hk' (fun m' Φ' a' w' hJ' => ih m' Φ' _ a' w' hJ' ?_)
      have := left_set hJ.size hk'.1 hk'.2.1
      omega
end

section
variable {C : Ctx} (ok : POK C) {call : CallF} (hcall : CallOK C call) {Φ : Ph} {s : AS} {w : World}

include ok hcall in
theorem draw_ok {ops : Array Oper} {id : Nat} {fr : Fr} {a : Act} {fr' : Fr} {s' : AS} (hn : fr.n < 16000000) (hR : Rel C Φ s w) (hF : FR ds Φ fr a) (h : drawAll C.E call ops.toList fr s = some (fr', s')) {Q : Exit → Act → World → Prop}
    (hQ : ∀ a' w' Φ', FR ds Φ' fr' a' → fr'.n = fr.n → Rel C Φ' s' w' → Stp Φ s w Φ' s' w' → Q .normal a' w') : (Code.region id ops true).wp C.P Q a w := by
  refine wp_region_any ok.mixed ?_
  unfold drawAll at h
  simp only at h
  split at h
  · rename_i hc
    simp only [Bool.and_eq_true, decide_eq_true_eq, Array.length_toList] at hc
    obtain ⟨⟨c1, c2⟩, c3⟩ := hc
    split at h
    · rename_i d hd
      simp only [Option.some.injEq, Prod.mk.injEq, Array.length_toList] at h
      obtain ⟨rfl, rfl⟩ := h
      obtain ⟨D, d1, d2, d3⟩ := drawRun_trace ops.toList 0 _ d rfl hd
      simp only [Nat.zero_add, Array.length_toList] at d2
      have H : Rec C call ops fr s D := ⟨fun k o ho => d3 k o (Nat.zero_le _) (by rw [Array.getElem?_toList]; exact ho), c1, c2, by rw [d1]; simp, c3, hn⟩
      have hR' : Rel C Φ s w.drew := hR.drew
      have hnl : ∀ k, ¬ Has (Array.replicate ops.size false) k := by
        intro k hk
        unfold Has at hk
        rw [Array.getD_eq_getD_getElem?] at hk
        by_cases h' : k < ops.size
        · simp [h'] at hk
        · simp [h'] at hk
      have hst0 : (D 0).st = { s with next := s.next + ops.size } := by rw [H.init]
      have hJ : J ds C ops fr s Φ w D 0 Φ (Array.replicate ops.size false) a w.drew := by
        refine ⟨by simp, fun k hk => absurd hk (hnl k), Nat.zero_le _, fun e he => ⟨fun h => absurd h (hnl e), fun h => by omega⟩, ?_, ?_, ?_, hF.size, hF.defers, fun d => ?_, fun k hk _ => ?_, fun k ob f _ hk => absurd hk (hnl k), fun k ob f k' ob' f' p p' _ hk => absurd hk (hnl k)⟩
        · rw [hst0]; exact hR'.bump (by omega) (by omega)
        · rw [hst0]; exact Stp.drew (Stp.bump (by omega))
        · rw [hst0]; exact Nat.le_refl _
        · unfold valL
          rw [if_neg (fun ⟨j, p, hj, _⟩ => hnl j hj)]
          exact hF.val d
        · cases e : Φ (s.next + k) with
          | none => rfl
          | some p => have := hR.fresh _ p e; omega
      refine draw_any ok hcall H (Φ0 := Φ) (w0 := w) ?_ ops.size 0 Φ _ a _ hJ ?_
      · intro Φ' a' w' h1 h2 h3
        rw [d2] at h1 h2 h3
        exact hQ a' w' Φ' h1 (by rw [← d2]; exact H.frn _ (Nat.le_refl _)) h2 h3
      · unfold left
        refine Nat.le_trans (List.length_filter_le _ _) (by simp)
    · cases h
  · cases h
end
end Go.Abs
