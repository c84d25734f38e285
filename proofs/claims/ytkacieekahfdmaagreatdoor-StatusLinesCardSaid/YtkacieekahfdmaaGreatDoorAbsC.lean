import Derived.Test.YtkacieekahfdmaaGreatDoorAbsB
set_option linter.unusedSimpArgs false
set_option linter.unusedVariables false
set_option linter.unusedSectionVars false
set_option linter.unusedSectionVars false
namespace Go.Abs
open Go Go.RowKit
variable [Toks]
variable {ds : List Deferred}
section
variable {C : Ctx} {Φ : Ph} {s : AS} {w : World}

/-! changes of state that keep the relation -/
theorem Rel.bump (h : Rel C Φ s w) {n : Nat} (hn : s.next ≤ n) (hm : n ≤ 1000000) : Rel C Φ { s with next := n } w :=
  ⟨h.below, fun i p a => Nat.lt_of_lt_of_le (h.fresh i p a) hn, h.lt, h.inj, h.obj, hm⟩
theorem Stp.bump {n : Nat} (hn : s.next ≤ n) : Stp Φ s w Φ { s with next := n } w :=
  ⟨Ext.refl _, hn, fun _ _ a _ => a, Nat.le_refl _, fun _ _ _ => rfl, fun i o p a b => .inr ⟨i, o, p, a, b, rfl⟩, fun _ o _ a => ⟨o, a⟩⟩

def Ph.set (Φ : Ph) (i : Nat) (p : Pl) : Ph := fun j => if j = i then some p else Φ j
theorem Ph.set_same (Φ : Ph) (i : Nat) (p : Pl) : (Ph.set Φ i p) i = some p := by simp [Ph.set]
theorem Ph.set_ne (Φ : Ph) {i j : Nat} (p : Pl) (h : j ≠ i) : (Ph.set Φ i p) j = Φ j := by simp [Ph.set, h]
theorem Ph.ext_set {Φ : Ph} {i : Nat} (p : Pl) (h : Φ i = none) : Ext Φ (Ph.set Φ i p) := by
  intro j q hj
  by_cases e : j = i
  · subst e; rw [h] at hj; cases hj
  · rw [Ph.set_ne _ _ e]; exact hj

theorem heap_alloc (w : World) (o : Obj) (k : Nat) (h : k < w.heap.size) : (w.alloc o).heap[k]? = w.heap[k]? := Below.heap_alloc w o k h
theorem heap_alloc_new (w : World) (o : Obj) : (w.alloc o).heap[w.heap.size]? = some o := by
  show (w.heap.push o)[w.heap.size]? = _
  simp
theorem Rel.base (h : Rel C Φ s w) : C.B ≤ w.heap.size := Nat.le_trans C.hB h.below.size

/-- a new block in the world, known by the number i, that is no live object yet -/
theorem Rel.lay (h : Rel C Φ s w) {i : Nat} (hi : i < s.next) (hn : Φ i = none) (hd : s.heap.get i = none) (o : Obj) (p : Pl) (hp : p.b = w.heap.size) : Rel C (Ph.set Φ i p) s (w.alloc o) := by
  have hB := h.base
  refine ⟨h.below.alloc hB o, ?_, ?_, ?_, ?_, h.room⟩
  · intro j q hj
    by_cases e : j = i
    · rw [e]; exact hi
    · rw [Ph.set_ne _ _ e] at hj; exact h.fresh j q hj
  · intro j q hj
    by_cases e : j = i
    · subst e; rw [Ph.set_same] at hj; cases hj; rw [hp]; simp; exact hB
    · rw [Ph.set_ne _ _ e] at hj; have := h.lt j q hj; simp; omega
  · intro j k o1 o2 q r h1 h2 h3 h4 h5
    have e1 : j ≠ i := fun e => by rw [e, hd] at h1; cases h1
    have e2 : k ≠ i := fun e => by rw [e, hd] at h2; cases h2
    rw [Ph.set_ne _ _ e1] at h3
    rw [Ph.set_ne _ _ e2] at h4
    exact h.inj j k o1 o2 q r h1 h2 h3 h4 h5
  · intro j ob hj
    have e1 : j ≠ i := fun e => by rw [e, hd] at hj; cases hj
    obtain ⟨q, c, h1, h2, h3⟩ := h.obj j ob hj
    refine ⟨q, c, by rw [Ph.set_ne _ _ e1]; exact h1, ?_, h3.mono (Ph.ext_set p hn)⟩
    rw [heap_alloc _ _ _ (h.lt j q h1).2]; exact h2

/-- a block that is known by a number becomes a live object -/
theorem Rel.wake (h : Rel C Φ s w) {i : Nat} {p : Pl} (hp : Φ i = some p) {ob : AObj} {c : Obj} (hc : w.heap[p.b]? = some c) (ho : OR C Φ p ob c) (hd : ∀ j o q, j ≠ i → s.heap.get j = some o → Φ j = some q → q.b ≠ p.b) : Rel C Φ (s.put i ob) w := by
  have hi : i < s.next := h.fresh i p hp
  have hr := h.room
  have hg : (s.put i ob).heap.get i = some ob := Tr.get_set _ _ _ (by omega)
  have hg' : ∀ j, j ≠ i → (s.put i ob).heap.get j = s.heap.get j := fun j e => Tr.get_set_ne _ _ _ _ e
  refine ⟨h.below, h.fresh, h.lt, ?_, ?_, h.room⟩
  · intro j k o1 o2 q r h1 h2 h3 h4 h5
    by_cases e1 : j = i
    · by_cases e2 : k = i
      · rw [e1, e2]
      · subst e1; rw [hp] at h3; cases h3
        rw [hg' k e2] at h2
        exact absurd h5.symm (hd k o2 r e2 h2 h4)
    · rw [hg' j e1] at h1
      by_cases e2 : k = i
      · subst e2; rw [hp] at h4; cases h4
        exact absurd h5 (hd j o1 q e1 h1 h3)
      · rw [hg' k e2] at h2
        exact h.inj j k o1 o2 q r h1 h2 h3 h4 h5
  · intro j o hj
    by_cases e1 : j = i
    · subst e1; rw [hg] at hj; cases hj; exact ⟨p, c, hp, hc, ho⟩
    · rw [hg' j e1] at hj; exact h.obj j o hj

/-- s.new: a new object -/
theorem Rel.new (h : Rel C Φ s w) {ob : AObj} {i : Nat} {s' : AS} (hs : s.new ob = some (i, s')) (o : Obj) (n z : Nat) (ho : ∀ Φ', Ext Φ Φ' → Φ' i = some ⟨w.heap.size, n, z⟩ → OR C Φ' ⟨w.heap.size, n, z⟩ ob o) :
    ∃ Φ', Ext Φ Φ' ∧ Φ' i = some ⟨w.heap.size, n, z⟩ ∧ Rel C Φ' s' (w.alloc o) ∧ Stp Φ s w Φ' s' (w.alloc o) := by
  unfold AS.new at hs
  split at hs
  · rename_i hlt
    simp only [Option.some.injEq, Prod.mk.injEq] at hs
    obtain ⟨rfl, rfl⟩ := hs
    have hn : Φ s.next = none := by
      cases e : Φ s.next with
      | none => rfl
      | some p => have := h.fresh _ _ e; omega
    have hd : s.heap.get s.next = none := by
      cases e : s.heap.get s.next with
      | none => rfl
      | some o' => obtain ⟨p, _, h1, _⟩ := h.obj _ _ e; rw [hn] at h1; cases h1
    have h1 := (h.bump (n := s.next + 1) (by omega) (by omega)).lay (i := s.next) (by show s.next < s.next + 1; omega) hn hd o ⟨w.heap.size, n, z⟩ rfl
    have hext := Ph.ext_set ⟨w.heap.size, n, z⟩ hn
    refine ⟨Ph.set Φ s.next ⟨w.heap.size, n, z⟩, hext, Ph.set_same _ _ _, ?_, ?_⟩
    · have := h1.wake (i := s.next) (p := ⟨w.heap.size, n, z⟩) (Ph.set_same _ _ _) (ob := ob) (c := o) (heap_alloc_new w o) (ho _ hext (Ph.set_same _ _ _)) (fun j o2 q e hj hq => ?_)
      · exact this
      · rw [Ph.set_ne _ _ e] at hq
        have := (h.lt j q hq).2
        show q.b ≠ w.heap.size
        omega
    · refine ⟨hext, by show s.next ≤ s.next + 1; omega, ?_, by simp, fun k hk _ => heap_alloc _ _ _ hk, ?_, ?_⟩
      · intro j p hj hlt2
        rw [Ph.set_ne _ _ (by omega)] at hj; exact hj
      · intro j o2 p hj hp
        by_cases e : j = s.next
        · subst e; rw [Ph.set_same] at hp; cases hp; exact .inl (Nat.le_refl _)
        · rw [Ph.set_ne _ _ e] at hp
          have hj' : s.heap.get j = some o2 := by
            have := Tr.get_set_ne s.heap s.next j (some ob) e
            rw [← this]; exact hj
          exact .inr ⟨j, o2, p, hj', hp, rfl⟩
      · intro j o2 hj ho2
        have := Tr.get_set_ne s.heap s.next j (some ob) (by omega)
        exact ⟨o2, by rw [← this]; exact ho2⟩
  · cases hs

/-! stores -/
theorem setCells_heap (b : Nat) : ∀ (vs : List Value) (o : Nat) (w : World) (c : Array Value) (e : TypeId) (fr : Nat × Nat), w.heap[b]? = some (.cells c e fr) → o + vs.length ≤ c.size →
    (w.setCells b o vs).heap[b]? = some (.cells ⟨over c.toList o vs⟩ e fr) := by
  intro vs
  induction vs with
  | nil =>
    intro o w c e fr h hl
    simp only [World.setCells]
    rw [h]
    congr 2
    apply Array.ext'
    apply List.ext_getElem?
    intro j
    rw [over_get _ _ _ _ (by simpa using hl), if_neg (by rw [List.length_nil]; omega)]
  | cons v vs ih =>
    intro o w c e fr h hl
    simp only [List.length_cons] at hl
    simp only [World.setCells]
    have h1 : (w.setCell ⟨b, o, none⟩ v).heap[b]? = some (.cells (c.setIfInBounds o v) e fr) := by
      simp [World.setCell, Array.getElem?_modify, h]
    rw [ih (o + 1) _ _ e fr h1 (by simp; omega)]
    congr 2
    apply Array.ext'
    apply List.ext_getElem?
    intro j
    simp only
    rw [over_get _ _ _ _ (by simp; omega), over_get _ _ _ _ (by simp; omega)]
    simp only [Array.toList_setIfInBounds, List.getElem?_set, List.length_cons, Array.length_toList]
    by_cases h2 : j = o
    · subst h2
      rw [if_neg (by omega), if_pos rfl, if_pos (by omega), if_pos (by omega)]
      simp
    · by_cases h3 : o + 1 ≤ j ∧ j < o + 1 + vs.length
      · rw [if_pos h3, if_pos (by omega)]
        have : j - o = (j - (o + 1)) + 1 := by omega
        rw [this]; simp
      · rw [if_neg h3, if_neg (fun e => h2 e.symm), if_neg (by omega)]
theorem setCells_other (b : Nat) : ∀ (vs : List Value) (o : Nat) (w : World) (k : Nat), k ≠ b → (w.setCells b o vs).heap[k]? = w.heap[k]? := by
  intro vs
  induction vs with
  | nil => intro o w k _; rfl
  | cons v vs ih =>
    intro o w k h
    simp only [World.setCells]
    rw [ih _ _ _ h]
    exact Below.heap_setCell w ⟨b, o, none⟩ v k h
theorem setCells_size (b : Nat) : ∀ (vs : List Value) (o : Nat) (w : World), (w.setCells b o vs).heap.size = w.heap.size := by
  intro vs
  induction vs with
  | nil => intro o w; rfl
  | cons v vs ih => intro o w; simp only [World.setCells]; rw [ih]; simp
theorem setCells_below {B : Nat} {a : World} (b : Nat) (hb : B ≤ b) : ∀ (vs : List Value) (o : Nat) (w : World), Below B a w → Below B a (w.setCells b o vs) := by
  intro vs
  induction vs with
  | nil => intro o w h; exact h
  | cons v vs ih => intro o w h; simp only [World.setCells]; exact ih _ _ (h.setCell (p := ⟨b, o, none⟩) hb v)

/-- one live object is another one now, in the block that it had -/
theorem Rel.change (h : Rel C Φ s w) {i : Nat} {ob ob' : AObj} {p : Pl} (hs : s.heap.get i = some ob) (hp : Φ i = some p) {w' : World} {c : Obj} (hc : w'.heap[p.b]? = some c) (ho : OR C Φ p ob' c)
    (hother : ∀ k, k ≠ p.b → w'.heap[k]? = w.heap[k]?) (hsz : w'.heap.size = w.heap.size) (hbel : Below C.B C.w0 w') : Rel C Φ (s.put i ob') w' ∧ Stp Φ s w Φ (s.put i ob') w' := by
  have hi := h.fresh i p hp
  have hr := h.room
  have hg : (s.put i ob').heap.get i = some ob' := Tr.get_set _ _ _ (by omega)
  have hg' : ∀ j, j ≠ i → (s.put i ob').heap.get j = s.heap.get j := fun j e => Tr.get_set_ne _ _ _ _ e
  refine ⟨⟨hbel, h.fresh, fun j q hj => by rw [hsz]; exact h.lt j q hj, ?_, ?_, h.room⟩, ⟨Ext.refl _, Nat.le_refl _, fun _ _ a _ => a, by rw [hsz]; exact Nat.le_refl _, ?_, ?_, ?_⟩⟩
  · intro j k o1 o2 q r h1 h2 h3 h4 h5
    have f : ∀ j o, (s.put i ob').heap.get j = some o → ∃ o', s.heap.get j = some o' := by
      intro j o hj
      by_cases e : j = i
      · rw [e]; exact ⟨ob, hs⟩
      · rw [hg' j e] at hj; exact ⟨o, hj⟩
    obtain ⟨o1', h1'⟩ := f j o1 h1
    obtain ⟨o2', h2'⟩ := f k o2 h2
    exact h.inj j k o1' o2' q r h1' h2' h3 h4 h5
  · intro j o hj
    by_cases e : j = i
    · subst e; rw [hg] at hj; cases hj; exact ⟨p, c, hp, hc, ho⟩
    · rw [hg' j e] at hj
      obtain ⟨q, d, h1, h2, h3⟩ := h.obj j o hj
      refine ⟨q, d, h1, ?_, h3⟩
      rw [hother _ (fun e2 => e (h.inj j i o ob q p hj hs h1 hp e2))]; exact h2
  · intro k _ hn
    exact hother k (fun e => hn i ob p hs hp e.symm)
  · intro j o q hj hq
    by_cases e : j = i
    · subst e; exact .inr ⟨j, ob, q, hs, hq, rfl⟩
    · rw [hg' j e] at hj; exact .inr ⟨j, o, q, hj, hq, rfl⟩
  · intro j o _ hj
    by_cases e : j = i
    · rw [e]; exact ⟨ob, hs⟩
    · rw [hg' j e] at hj; exact ⟨o, hj⟩

theorem storeC_ok (hR : Rel C Φ s w) {i off : Nat} {xs us : List Value} {s' : AS} (h : storeC s i off xs = some s') {p : Pl} (hp : Φ i = some p) (hx : VRs Φ xs us) :
    ∃ w', (storeCells ⟨p.b, off, none⟩ us).run C.P w = .ok () w' ∧ Rel C Φ s' w' ∧ Stp Φ s w Φ s' w' ∧ w' = w.setCells p.b off us := by
  unfold storeC at h
  split at h
  · rename_i e vs o lo hi hs
    split at h
    · rename_i hc
      cases h
      simp only [Bool.and_eq_true, decide_eq_true_eq, Bool.or_eq_true] at hc
      obtain ⟨⟨c1, c2⟩, c3⟩ := hc
      obtain ⟨p', c, hp', hcell, ho⟩ := hR.obj i _ hs
      rw [hp] at hp'; cases hp'
      cases c <;> simp only [OR] at ho
      rename_i cs ce fr
      obtain ⟨o1, o2, o3, o4, o5, o6, o7⟩ := ho
      have hul : us.length = xs.length := hx.1.symm
      have hrun := run_storeCells_cells (P := C.P) p.b off us 0 w
        (fun j hj => by
          simp only [Nat.add_zero]
          rw [show w.cell? ⟨p.b, off + j, none⟩ = cs[off + j]? by simp [World.cell?, hcell]]
          rw [Array.getElem?_eq_getElem (by omega)]; rfl)
        (fun j hj => by
          simp only [Nat.add_zero]
          cases hf : w.frozen? ⟨p.b, off + j, none⟩ with
          | false => rfl
          | true =>
            simp [World.frozen?, hcell] at hf
            have := o7 (off + j) hf.1 hf.2
            rcases c2 with (d1 | d1) | d1
            · have := Nat.le_of_ble_eq_true d1; omega
            · have := Nat.le_of_ble_eq_true d1; omega
            · have := Nat.le_of_ble_eq_true d1; omega)
        (fun v hv => by
          obtain ⟨k, hk⟩ := List.getElem?_of_mem hv
          have hlt : k < xs.length := by
            have := (List.getElem?_eq_some_iff.1 hk).1; omega
          have := (hx.2 k _ v (List.getElem?_eq_getElem hlt) hk).oneC
          rw [this]
          exact (List.all_eq_true.1 c3) _ (List.getElem_mem hlt))
      simp only [Nat.add_zero] at hrun
      have hheap := setCells_heap p.b us off w cs ce fr hcell (by omega)
      have hbel := setCells_below (B := C.B) (a := C.w0) p.b (hR.lt i p hp).1 us off w hR.below
      obtain ⟨r1, r2⟩ := hR.change (ob' := .cells e (over vs off xs) o lo hi) hs hp hheap (by
          simp only [OR]
          refine ⟨o1, ?_, o3, ?_, fun ho => ?_, ?_, o7⟩
          · show (over cs.toList off us).length = p.n
            rw [over_length _ _ _ (by simp; omega)]; simpa using o2
          · rw [over_length _ _ _ c1]; exact o4
          · rw [over_length _ _ _ c1]; exact o5 ho
          · intro k v hv
            rw [over_get _ _ _ _ c1] at hv
            show ∃ v', (⟨over cs.toList off us⟩ : Array Value)[k]? = some v' ∧ VR Φ v v'
            rw [show (⟨over cs.toList off us⟩ : Array Value)[k]? = (over cs.toList off us)[k]? by simp]
            rw [over_get _ _ _ _ (by simp; omega)]
            by_cases hk : off ≤ k ∧ k < off + xs.length
            · rw [if_pos hk] at hv
              rw [if_pos (by omega)]
              exact hx.get hv
            · rw [if_neg hk] at hv
              rw [if_neg (by omega)]
              obtain ⟨v', a, b⟩ := o6 k v hv
              exact ⟨v', by simpa using a, b⟩)
        (fun k hk => setCells_other p.b us off w k hk) (setCells_size _ _ _ _) hbel
      exact ⟨_, hrun, r1, r2, rfl⟩
    · cases h
  · cases h
end
end Go.Abs
set_option linter.unusedSectionVars false
namespace Go.Abs
open Go Go.RowKit
variable [Toks]
variable {ds : List Deferred}
section
variable {C : Ctx} (ok : POK C) {Φ : Ph} {s : AS} {w : World}

/-! operations that lay one new block -/
theorem rep_length {α : Type} (n : Nat) (l : List α) : (rep n l).length = n * l.length := by
  induction n with
  | zero => simp [rep]
  | succ n ih => simp [rep, ih, Nat.succ_mul]; omega
theorem rep_get (l : List Value) (_hl : 0 < l.length) : ∀ (n j : Nat), j < n * l.length → (rep n l)[j]? = l[j % l.length]? := by
  intro n
  induction n with
  | zero => intro j h; simp at h
  | succ n ih =>
    intro j h
    simp only [rep]
    by_cases hj : j < l.length
    · rw [List.getElem?_append_left hj, Nat.mod_eq_of_lt hj]
    · rw [List.getElem?_append_right (by omega), ih _ (by rw [Nat.succ_mul] at h; omega)]
      congr 1
      exact (Nat.mod_eq_sub_mod (by omega)).symm
theorem range_rep (z : Array Value) (n : Nat) (hz : 0 < z.size) : ((Array.range (n * z.size)).map fun i => z[i % z.size]!) = (⟨rep n z.toList⟩ : Array Value) := by
  apply Array.ext'
  apply List.ext_getElem?
  intro j
  simp only [Array.toList_map, Array.toList_range, List.getElem?_map]
  by_cases hj : j < n * z.size
  · rw [List.getElem?_range hj, rep_get _ (by simpa using hz) _ _ (by simpa using hj)]
    simp only [Option.map_some, Array.length_toList]
    have : j % z.size < z.size := Nat.mod_lt _ hz
    rw [getElem!_pos z _ this]
    simp [Array.getElem?_toList, Array.getElem?_eq_getElem this]
  · rw [List.getElem?_eq_none (by simpa using hj), List.getElem?_eq_none (by rw [rep_length]; simpa using hj)]
    rfl

theorem VRs.rep {xs us : List Value} (h : VRs Φ xs us) (n : Nat) : VRs Φ (Abs.rep n xs) (Abs.rep n us) := by
  induction n with
  | zero => exact VRs.nil Φ
  | succ n ih => exact h.append ih

/-- a fresh closed row -/
theorem OR.fresh {e : TypeId} {xs us : List Value} {b n z : Nat} (hx : VRs Φ xs us) (hn : n = us.length) (hz : z = sizeP C.P e) : OR C Φ ⟨b, n, z⟩ (.cells e xs false 0 0) (.cells ⟨us⟩ e) := by
  simp only [OR]
  refine ⟨trivial, hn.symm, hz, by rw [hx.1]; omega, fun _ => by rw [hx.1]; exact hn.symm, fun k v hv => ?_, fun k h1 h2 => by omega⟩
  obtain ⟨v', a, b⟩ := hx.get hv
  exact ⟨v', by simpa using a, b⟩

set_option maxHeartbeats 400000 in
include ok in
theorem new_ok {fr : Fr} {a : Act} (hF : FR ds Φ fr a) {op : Op} {ob : AObj} {f : Nat → Value} (h : aNew C.E fr op = some (ob, f)) (o : Oper) (ho : o.op = op) (w : World) :
    ∃ obj n z u, (execOp a.eval o).run C.P w = .ok (.value u) (w.alloc obj) ∧ ∀ Φ' i, Ext Φ Φ' → Φ' i = some ⟨w.heap.size, n, z⟩ → OR C Φ' ⟨w.heap.size, n, z⟩ ob obj ∧ VR Φ' (f i) u := by
  obtain ⟨dst, oop, ty, pos, after, guard⟩ := o
  simp only at ho
  subst ho
  unfold aNew at h
  split at h
  · rename_i e
    split at h
    · rename_i z hz
      split at h
      · cases h
        obtain ⟨i, hi, hi2, hg⟩ := zero_of ok hz
        refine ⟨.cells z.cells e, z.cells.toList.length, sizeP C.P e, .pointer (some ⟨w.heap.size, 0, none⟩), ?_, fun Φ' j he hj => ⟨?_, .ptr j 0 _ hj⟩⟩
        · simp [execOp, Instr.alloc, run_zero ok hz, newVar, newRow]
        · exact OR.fresh (us := z.cells.toList) ((VRs.cellsL_ground hg)) rfl rfl
      · cases h
    · cases h
  · rename_i e x
    split at h
    · rename_i v hv
      split at h
      · cases h
        have hx := hF.opd hv
        refine ⟨.cells (a.eval x).cells e, (a.eval x).cells.toList.length, sizeP C.P e, .pointer (some ⟨w.heap.size, 0, none⟩), ?_, fun Φ' j he hj => ⟨?_, .ptr j 0 _ hj⟩⟩
        · simp [execOp, Instr.box, newVar, newRow]
        · exact OR.fresh (us := (a.eval x).cells.toList) ((hx.mono he).cells) rfl rfl
      · cases h
    · cases h
  · rename_i t n ps
    split at h
    · rename_i e l hu hl
      split at h
      · rename_i z zv hz hzv
        split at h
        · rename_i hc
          simp only [Bool.and_eq_true, decide_eq_true_eq] at hc
          obtain ⟨hc1, hc2⟩ := hc
          split at h
          · rename_i cs hcs
            split at h
            · cases h
              obtain ⟨i, hi, hi2, hg⟩ := zero_of ok hzv
              have hcz : VRs Φ (cellsL zv) zv.cells.toList := VRs.cellsL_ground hg
              have hzs : zv.cells.size = z + 1 := by have := hcz.1; simp at this; omega
              obtain ⟨ur, r1, r2⟩ := fillL_ok (place' := fun i => some (i * (z + 1), z + 1)) (fun _ => rfl) (hF.pairs hl) (hcz.rep n) hcs
              refine ⟨.cells ⟨ur⟩ e, ur.length, sizeP C.P e, .slice (some ⟨w.heap.size, 0, none⟩) n n, ?_, fun Φ' j he hj => ⟨?_, .slice j 0 n _ n _ hj (fun _ => by omega) (by omega) (fun h => by omega)⟩⟩
              · have e1 : (ps.map fun (x : Nat × Operand) => (x.1, a.eval x.2)) = (⟨ps.toList.map fun (x : Nat × Operand) => (x.1, a.eval x.2)⟩ : Array (Nat × Value)) := by apply Array.ext'; simp
                have hrr := range_rep zv.cells n (by omega)
                rw [hzs] at hrr
                simp only [execOp, e1, Instr.buildSlice, Sem.run_bind, run_und ok hu, Result.andThen_ok, run_siz ok hz]
                by_cases h0 : n * (z + 1) = 0
                · have hn0 : n = 0 := by
                    rcases Nat.mul_eq_zero.1 h0 with h | h
                    · exact h
                    · omega
                  subst hn0
                  have r1' : Instr.fill (fun i => some (i * (z + 1), z + 1)) ((Array.range (0 * (z + 1))).map fun x => (#[] : Array Value)[x % (#[] : Array Value).size]!) (ps.toList.map fun (x : Nat × Operand) => (x.1, a.eval x.2)) = some ⟨ur⟩ := by
                    have : ((Array.range (0 * (z + 1))).map fun x => (#[] : Array Value)[x % (#[] : Array Value).size]!) = (⟨rep 0 zv.cells.toList⟩ : Array Value) := by
                      apply Array.ext'; simp [rep]
                    rw [this]; exact r1
                  simp
                  simp at r1'
                  rw [r1']
                  simp [newRow]
                · have r1' : Instr.fill (fun i => some (i * (z + 1), z + 1)) ((Array.range (n * (z + 1))).map fun x => zv.cells[x % (z + 1)]!) (ps.toList.map fun (x : Nat × Operand) => (x.1, a.eval x.2)) = some ⟨ur⟩ := by
                    rw [hrr]; exact r1
                  have h24 : ¬ (n * (z + 1) > 2 ^ 24) := by omega
                  simp only [Nat.succ_eq_add_one]
                  rw [if_neg h24, if_neg h0]
                  simp only [Sem.run_bind, run_zero ok hzv, Result.andThen_ok, Sem.run_pure, hzs]
                  rw [r1']
                  simp [newRow]
              · exact OR.fresh (r2.mono he) rfl rfl
            · cases h
          · cases h
        · cases h
      · cases h
    · cases h
  · cases h
    refine ⟨.map #[] 0, 0, 0, .map (some w.heap.size), ?_, fun Φ' j he hj => ⟨?_, .map j _ hj⟩⟩
    · simp [execOp, Instr.makeMap]
    · simp only [OR]; exact ⟨rfl, fun k q v hv => by simp at hv⟩
  · rename_i t l0 c0
    split at h
    · rename_i e l c hu hl hc
      split at h
      · rename_i ei zv he hzv
        split at h
        · rename_i hcond
          simp only [Bool.and_eq_true, decide_eq_true_eq] at hcond
          obtain ⟨⟨⟨⟨⟨⟨p1, p2⟩, p3⟩, p4⟩, p5⟩, p6⟩, p7⟩ := hcond
          cases h
          have el := (hF.opd hl).int_inv
          have ec := (hF.opd hc).int_inv
          obtain ⟨i, hi, hi2, hg⟩ := zero_of ok hzv
          have hcz : VRs Φ (cellsL zv) zv.cells.toList := VRs.cellsL_ground hg
          have hei := info_of ok he
          have hzs : zv.cells.size = ei.size := by have := hcz.1; simp at this; omega
          have hs : ∀ w, (sizeOf e).run C.P w = .ok ei.size w := fun w => by simp [sizeOf, typeInfo, hei]
          have hti : ∀ w, (typeInfo e).run C.P w = .ok ei w := fun w => by simp [typeInfo, hei]
          refine ⟨.cells ⟨rep c.toNat zv.cells.toList⟩ e, (rep c.toNat zv.cells.toList).length, sizeP C.P e, .slice (some ⟨w.heap.size, 0, none⟩) l.toNat c.toNat, ?_,
            fun Φ' j he hj => ⟨OR.fresh ((hcz.mono he).rep _) rfl rfl, .slice j 0 _ _ _ _ hj (fun _ => by omega) (by omega) (fun h => by omega)⟩⟩
          have wl : IntKind.i64.wrap l = l := by
            have : IntKind.i64.wrap l = (let m := l % 18446744073709551616; if true && decide (m ≥ 9223372036854775808) then m - 18446744073709551616 else m) := rfl
            rw [this]; simp; omega
          have wc : IntKind.i64.wrap c = c := by
            have : IntKind.i64.wrap c = (let m := c % 18446744073709551616; if true && decide (m ≥ 9223372036854775808) then m - 18446744073709551616 else m) := rfl
            rw [this]; simp; omega
          have hbytes : ¬ ((ei.bytes : Int) * c > 2 ^ 48) := by
            have : (ei.bytes : Int) * c ≤ 1000 * 1000000 := Int.mul_le_mul (by omega) p3 (by omega) (by omega)
            omega
          have hno : (decide (c < 0) || decide ((ei.bytes : Int) * c > 2 ^ 48) || decide (l < 0) || decide (l > c)) = false := by
            simp only [Bool.or_eq_false_iff, decide_eq_false_iff_not]
            exact ⟨⟨⟨by omega, hbytes⟩, by omega⟩, by omega⟩
          simp only [execOp, el, ec, Instr.makeSlice, Sem.run_bind, run_und ok hu, Result.andThen_ok, asInt, asIntOf, Sem.run_pure, hti, wl, wc]
          rw [if_neg (by rw [hno]; simp)]
          simp only [Sem.run_bind, run_askRoom, Result.andThen_ok, hs]
          by_cases h0 : c.toNat * ei.size = 0
          · have hn0 : c.toNat = 0 := by
              rcases Nat.mul_eq_zero.1 h0 with h | h
              · exact h
              · omega
            have hz0 : ∀ f : Nat → Value, Array.map f (Array.range 0) = (⟨[]⟩ : Array Value) := fun f => by apply Array.ext'; simp
            rw [hn0]
            simp [newRow, rep, hz0]
          · rw [if_neg h0]
            have hrr := range_rep zv.cells c.toNat (by omega)
            rw [hzs] at hrr
            simp only [Sem.run_bind, run_zero ok hzv, Result.andThen_ok, Sem.run_pure, hzs, hrr]
            simp [newRow]
        · cases h
      · cases h
    · cases h
  · cases h
end
end Go.Abs
set_option linter.unusedSectionVars false
namespace Go.Abs
open Go Go.RowKit
variable [Toks]
variable {ds : List Deferred}
section
variable {C : Ctx} (ok : POK C) {Φ : Ph} {s : AS} {w : World}

theorem Rel.drew (h : Rel C Φ s w) : Rel C Φ s w.drew := ⟨h.below.drew, h.fresh, h.lt, h.inj, h.obj, h.room⟩
theorem Stp.drew {Φ' : Ph} {s' : AS} {w' : World} (h : Stp Φ s w.drew Φ' s' w') : Stp Φ s w Φ' s' w' := ⟨h.ext, h.nx, h.old, h.sz, h.out, h.img, h.dom⟩

include ok in
theorem src_ok (hR : Rel C Φ s w) {t1 : TypeId} {d1 : TypeDesc} {z m : Nat} {y y' : Value} {new : List Value} (hu : und C.E.T t1 = some d1) (hs : srcOk d1 z y = true) (hm : slen y = some m) (hn : firstC s z m y = some new) (ho : new.all oneC = true) (hy : VR Φ y y') :
    ∃ news, VRs Φ new news ∧ Src C.P z t1 y' m news w := by
  unfold srcOk at hs
  split at hs
  · rename_i e' a n c
    simp only [slen, Option.some.injEq] at hm; subst hm
    cases a with
    | none =>
      obtain ⟨rfl, rfl, rfl⟩ := hy.nilslice_inv
      simp only [firstC, if_true, Option.some.injEq] at hn; subst hn
      exact ⟨[], VRs.nil Φ, Src.ofNil w (und_of ok hu) 0⟩
    | some a =>
      obtain ⟨hsp, p, cap, hp, rfl, _⟩ := hy.slice_inv
      simp only [firstC] at hn
      obtain ⟨us, h1, h2, h3, h4⟩ := loadC_ok hR hn hp
      refine ⟨us, h1, Src.ofSlice w (und_of ok hu) _ n cap us (by rw [← h1.1, h2]) h3 ?_⟩
      intro u hu
      obtain ⟨k, hk⟩ := List.getElem?_of_mem hu
      have hlt : k < new.length := by rw [h1.1]; exact (List.getElem?_eq_some_iff.1 hk).1
      rw [(h1.2 k _ u (List.getElem?_eq_getElem hlt) hk).oneC]
      exact (List.all_eq_true.1 ho) _ (List.getElem_mem hlt)
  · rename_i b
    have hz : z = 1 := Nat.eq_of_beq_eq_true hs
    subst hz
    cases hy.str_inv
    simp only [slen, Option.some.injEq] at hm; subst hm
    simp only [firstC, Option.some.injEq] at hn; subst hn
    have e : Abs.byteCells (b.data.toList.take b.data.toList.length) = Go.byteCells b := by unfold Abs.byteCells Go.byteCells; rw [List.take_length]
    rw [e, ← ba_size]
    refine ⟨Go.byteCells b, VRs.refl_of fun x hx => ?_, Src.ofString w (und_of ok hu) b⟩
    obtain ⟨c, _, rfl⟩ := List.mem_map.1 hx
    exact .int Φ _ _
  · cases hs

theorem Rel.kill (h : Rel C Φ s w) (i : Nat) (hi : i < 16000000) : Rel C Φ (kill s i) w ∧ Stp Φ s w Φ (kill s i) w := by
  have f : ∀ j o, (Abs.kill s i).heap.get j = some o → s.heap.get j = some o := by
    intro j o hj
    by_cases e : j = i
    · subst e
      have : (Abs.kill s j).heap.get j = none := Tr.get_set _ _ _ hi
      rw [this] at hj; cases hj
    · have : (Abs.kill s i).heap.get j = s.heap.get j := Tr.get_set_ne _ _ _ _ e
      rw [← this]; exact hj
  exact ⟨⟨h.below, h.fresh, h.lt, fun j k o1 o2 q r h1 h2 => h.inj j k o1 o2 q r (f j o1 h1) (f k o2 h2), fun j o hj => h.obj j o (f j o hj), h.room⟩,
    ⟨Ext.refl _, Nat.le_refl _, fun _ _ a _ => a, Nat.le_refl _, fun _ _ _ => rfl, fun j o p a b => .inr ⟨j, o, p, f j o a, b, rfl⟩, fun j o _ hj => ⟨o, f j o hj⟩⟩⟩

/-- a new number for a block whose old number is no live object any more -/
theorem Rel.reuse (h : Rel C Φ s w) {ob : AObj} {i : Nat} {s' : AS} (hs : s.new ob = some (i, s')) {p : Pl} {c : Obj} (hc : w.heap[p.b]? = some c) (hB : C.B ≤ p.b) (ho : ∀ Φ', Ext Φ Φ' → OR C Φ' p ob c)
    (hd : ∀ j o q, s.heap.get j = some o → Φ j = some q → q.b ≠ p.b) :
    ∃ Φ', Ext Φ Φ' ∧ Φ' i = some p ∧ Rel C Φ' s' w ∧ (∀ j q, Φ' j = some q → j < s.next → Φ j = some q) ∧ (∀ j o q, s'.heap.get j = some o → Φ' j = some q → q = p ∨ ∃ o', s.heap.get j = some o' ∧ Φ j = some q) ∧
      (∀ j o, j < s.next → s'.heap.get j = some o → s.heap.get j = some o) ∧ s.next ≤ s'.next := by
  unfold AS.new at hs
  split at hs
  · rename_i hlt
    simp only [Option.some.injEq, Prod.mk.injEq] at hs
    obtain ⟨rfl, rfl⟩ := hs
    have hn : Φ s.next = none := by
      cases e : Φ s.next with
      | none => rfl
      | some p => have := h.fresh _ _ e; omega
    have hdd : s.heap.get s.next = none := by
      cases e : s.heap.get s.next with
      | none => rfl
      | some o' => obtain ⟨p, _, h1, _⟩ := h.obj _ _ e; rw [hn] at h1; cases h1
    have hext := Ph.ext_set p hn
    have hlt2 : p.b < w.heap.size := by
      rcases Nat.lt_or_ge p.b w.heap.size with h' | h'
      · exact h'
      · rw [Array.getElem?_eq_none h'] at hc; cases hc
    have h1 : Rel C (Ph.set Φ s.next p) { s with next := s.next + 1 } w := by
      refine ⟨h.below, ?_, ?_, ?_, ?_, by show s.next + 1 ≤ 1000000; omega⟩
      · intro j q hj
        show j < s.next + 1
        by_cases e : j = s.next
        · omega
        · rw [Ph.set_ne _ _ e] at hj; have := h.fresh j q hj; omega
      · intro j q hj
        by_cases e : j = s.next
        · subst e; rw [Ph.set_same] at hj; cases hj; exact ⟨hB, hlt2⟩
        · rw [Ph.set_ne _ _ e] at hj; exact h.lt j q hj
      · intro j k o1 o2 q r g1 g2 g3 g4 g5
        have g1' : s.heap.get j = some o1 := g1
        have g2' : s.heap.get k = some o2 := g2
        have e1 : j ≠ s.next := fun e => by rw [e, hdd] at g1'; cases g1'
        have e2 : k ≠ s.next := fun e => by rw [e, hdd] at g2'; cases g2'
        rw [Ph.set_ne _ _ e1] at g3
        rw [Ph.set_ne _ _ e2] at g4
        exact h.inj j k o1 o2 q r g1' g2' g3 g4 g5
      · intro j o hj
        have hj' : s.heap.get j = some o := hj
        have e1 : j ≠ s.next := fun e => by rw [e, hdd] at hj'; cases hj'
        obtain ⟨q, d, a1, a2, a3⟩ := h.obj j o hj'
        exact ⟨q, d, by rw [Ph.set_ne _ _ e1]; exact a1, a2, a3.mono hext⟩
    have h2 := h1.wake (i := s.next) (p := p) (Ph.set_same _ _ _) (ob := ob) hc (ho _ hext) (fun j o q e hj hq => by
      rw [Ph.set_ne _ _ e] at hq; exact hd j o q hj hq)
    refine ⟨Ph.set Φ s.next p, hext, Ph.set_same _ _ _, h2, ?_, ?_, ?_, by show s.next ≤ s.next + 1; omega⟩
    · intro j q hj hlt3
      rw [Ph.set_ne _ _ (by omega)] at hj; exact hj
    · intro j o q hj hq
      by_cases e : j = s.next
      · subst e; rw [Ph.set_same] at hq; cases hq; exact .inl rfl
      · rw [Ph.set_ne _ _ e] at hq
        have := Tr.get_set_ne s.heap s.next j (some ob) e
        exact .inr ⟨o, by rw [← this]; exact hj, hq⟩
    · intro j o hj ho2
      have := Tr.get_set_ne s.heap s.next j (some ob) (by omega)
      rw [← this]; exact ho2
  · cases hs

theorem VRs.allOne {xs us : List Value} (h : VRs Φ xs us) (ho : xs.all oneC = true) : ∀ u ∈ us, u.oneCell' = true := by
  intro u hu
  obtain ⟨k, hk⟩ := List.getElem?_of_mem hu
  have hlt : k < xs.length := by rw [h.1]; exact (List.getElem?_eq_some_iff.1 hk).1
  rw [(h.2 k _ u (List.getElem?_eq_getElem hlt) hk).oneC]
  exact (List.all_eq_true.1 ho) _ (List.getElem_mem hlt)

/-- an append that makes a new row: the state behind it -/
theorem grow_ok (hR : Rel C Φ s w) {e : TypeId} {old new olds news : List Value} {need cap z : Nat} {v : Value} {s' : AS} (h : grow s e (old ++ new) need = some (v, s')) (ho : VRs Φ old olds) (hn : VRs Φ new news)
    (hz : z = sizeP C.P e) (hl : (old ++ new).length = need * z) (hcap : need ≤ cap) (tail : Array Value) (ht : tail.size = (cap - need) * z) :
    ∃ Φ', VR Φ' v (.slice (some ⟨w.heap.size, 0, none⟩) need cap) ∧ Rel C Φ' s' (w.alloc (.cells ((olds ++ news).toArray ++ tail) e)) ∧ Stp Φ s w Φ' s' (w.alloc (.cells ((olds ++ news).toArray ++ tail) e)) := by
  unfold grow at h
  split at h
  · rename_i i s1 hnew
    simp only [Option.some.injEq, Prod.mk.injEq] at h
    obtain ⟨rfl, rfl⟩ := h
    have hlen : (olds ++ news).length = need * z := by rw [← hl]; simp [ho.1, hn.1]
    obtain ⟨Φ', h1, h2, h3, h4⟩ := hR.new hnew (.cells ((olds ++ news).toArray ++ tail) e) (cap * z) z (fun Φ' he _ => by
      simp only [OR]
      have hsz : cap * z = need * z + (cap - need) * z := by rw [← Nat.add_mul]; congr 1; omega
      refine ⟨trivial, ?_, hz, by rw [hl]; exact Nat.mul_le_mul_right z hcap, (fun h => (by cases h)), fun k x hx => ?_, fun k a b => by omega⟩
      · rw [Array.size_append, List.size_toArray, hlen, ht, hsz]
      · obtain ⟨u, g1, g2⟩ := ((ho.append hn).mono he).get hx
        refine ⟨u, ?_, g2⟩
        have : k < (olds ++ news).length := (List.getElem?_eq_some_iff.1 g1).1
        rw [Array.getElem?_append_left (by simpa using this)]
        simpa using g1)
    refine ⟨Φ', .slice i 0 need _ cap ⟨w.heap.size, cap * z, z⟩ h2 (fun h => by omega) (by omega) (fun _ => by simp), h3, h4⟩
  · cases h

theorem growBy_le (need : Nat) : ∀ (r c : Nat), Builtin.growBy need r c ≤ c ∨ Builtin.growBy need r c ≤ need + (need + 768) / 4 := by
  intro r
  induction r with
  | zero => intro c; exact .inl (Nat.le_refl _)
  | succ r ih =>
    intro c
    simp only [Builtin.growBy]
    split
    · exact .inl (Nat.le_refl _)
    · rcases ih (c + (c + 768) / 4) with h | h
      · right; omega
      · exact .inr h

theorem nextcap_le (need old : Nat) : Builtin.nextslicecap need old ≤ 2 * need + 2 * old + 10000 := by
  unfold Builtin.nextslicecap
  split
  · omega
  · split
    · omega
    · have := growBy_le need 4 old
      omega

include ok in
theorem append_ok (hR : Rel C Φ s w) {t0 t1 ty : TypeId} {x y x' y' v : Value} {s' : AS} (h : aAppend C.E.T s t0 t1 x y = some (v, s')) (hx : VR Φ x x') (hy : VR Φ y y') :
    ∃ u w' Φ', (Builtin.append_ #[t0, t1] ty #[x', y']).run C.P w = .ok u w' ∧ VR Φ' v u ∧ Rel C Φ' s' w' ∧ Stp Φ s w Φ' s' w' := by
  unfold aAppend at h
  split at h
  · rename_i e d1 base n c2 hu0 hu1
    split at h
    · rename_i ei zv m hei hzv hm
      simp only at h
      split at h
      · rename_i hcond
        simp only [Bool.and_eq_true, decide_eq_true_eq] at hcond
        obtain ⟨⟨q1, q2⟩, q3⟩ := hcond
        split at h
        · cases h
        · rename_i new hnew
          split at h
          · cases h
          · rename_i hone
            have hone : new.all oneC = true := by simpa using hone
            obtain ⟨news, hns, hsrc⟩ := src_ok ok hR hu1 q1 hm hnew hone hy
            have hinfo := info_of ok hei
            obtain ⟨zi, hzi, hzi2, hzg⟩ := zero_of ok hzv
            rw [hinfo] at hzi; cases hzi
            have hzP : ei.size = sizeP C.P e := by simp [sizeP, hinfo]
            have hzvs : zv.cells.size = ei.size := by
              have : VRs Φ (cellsL zv) zv.cells.toList := VRs.cellsL_ground hzg
              have := this.1; simp at this; omega
            split at h
            · rename_i hroom
              cases base with
              | none =>
                obtain ⟨rfl, rfl, rfl⟩ := hx.nilslice_inv
                cases h
                have hm0 : m = 0 := by omega
                subst hm0
                refine ⟨.slice none 0 0, w, Φ, ?_, .flat _ rfl, hR, Stp.refl hR⟩
                have hl := hsrc.newsLen
                have hnil : news = [] := by cases news with | nil => rfl | cons _ _ => simp at hl
                subst hnil
                have hc := hsrc.cells
                rcases hsrc.kind with ⟨e', hk⟩ | hk <;> simp [Builtin.append_, und_of ok hu0, underlying, hk, sizeOf, typeInfo, hinfo, hsrc.len, hc]
              | some a =>
                obtain ⟨hsp, p, cap, hp, rfl, g1, g2, g3⟩ := hx.slice_inv
                simp only at h
                split at h
                · rename_i s1 hst
                  cases h
                  obtain ⟨w', r1, r2, r3, r4⟩ := storeC_ok hR hst hp hns
                  refine ⟨.slice (some ⟨p.b, a.off, none⟩) (n + m) cap, w', Φ, ?_, ?_, r2, r3⟩
                  · -- the cells are there
                    have hh := hst
                    unfold storeC at hh
                    split at hh
                    · rename_i e' vs o lo hi hs
                      split at hh
                      · rename_i hc
                        simp only [Bool.and_eq_true, decide_eq_true_eq, Bool.or_eq_true] at hc
                        obtain ⟨⟨c1, c2'⟩, c3⟩ := hc
                        obtain ⟨p', c, hp', hcell, hor⟩ := hR.obj _ _ hs
                        rw [hp] at hp'; cases hp'
                        cases c <;> simp only [OR] at hor
                        rename_i cs ce fr
                        obtain ⟨o1, o2, o3, o4, o5, o6, o7⟩ := hor
                        have hul : news.length = new.length := hns.1.symm
                        rw [r4]
                        refine run_append_room_src (P := C.P) w t0 t1 ty e ei (und_of ok hu0) hinfo p.b a.off n cap y' m news hsrc (by omega) (fun j hj => ?_) (fun j hj => ?_)
                        · rw [show w.cell? ⟨p.b, a.off + n * ei.size + j, none⟩ = cs[a.off + n * ei.size + j]? by simp [World.cell?, hcell]]
                          rw [Array.getElem?_eq_getElem (by omega)]; rfl
                        · cases hf : w.frozen? ⟨p.b, a.off + n * ei.size + j, none⟩ with
                          | false => rfl
                          | true =>
                            simp [World.frozen?, hcell] at hf
                            have := o7 _ hf.1 hf.2
                            rcases c2' with (d1 | d1) | d1
                            · have := Nat.le_of_ble_eq_true d1; omega
                            · have := Nat.le_of_ble_eq_true d1; omega
                            · have := Nat.le_of_ble_eq_true d1; omega
                      · cases hh
                    · cases hh
                  · obtain ⟨ab, ao, asp⟩ := a
                    simp only at hsp; subst hsp
                    exact .slice ab ao (n + m) c2 cap p hp g1 g2 g3
                · cases h
            · rename_i hroom
              split at h
              · rename_i hb
                simp only [Bool.and_eq_true, decide_eq_true_eq] at hb
                obtain ⟨⟨⟨b1, b2⟩, b3⟩, b4⟩ := hb
                split at h
                · cases h
                · rename_i old hold
                  split at h
                  · cases h
                  · rename_i hone2
                    have hone2 : old.all oneC = true := by simpa using hone2
                    have hcaple : ∀ sCap, n + m ≤ Builtin.nextslicecap (n + m) sCap ∨ True := fun _ => .inr trivial
                    -- growth, whatever the capacity
                    have growth : ∀ (s1 : AS) (sCap : Nat) (base' : Option Addr) (olds : List Value), Rel C Φ s1 w → Stp Φ s w Φ s1 w → sCap < n + m → VRs Φ old olds →
                        (∀ w2 : World, w2.heap = w.heap → (Builtin.firstCells ei.size n (.slice base' n sCap)).run C.P w2 = .ok olds.toArray w2) → grow s1 e (old ++ new) (n + m) = some (v, s') →
                        ∃ u w' Φ', (Builtin.append_ #[t0, t1] ty #[.slice base' n sCap, y']).run C.P w = .ok u w' ∧ VR Φ' v u ∧ Rel C Φ' s' w' ∧ Stp Φ s w Φ' s' w' := by
                      intro s1 sCap base' olds hR1 hS1 hlt hos hfirst hg
                      have hfit : Builtin.nextslicecap (n + m) sCap * ei.bytes ≤ 281474976710656 := by
                        have h1 := nextcap_le (n + m) sCap
                        have h2 : Builtin.nextslicecap (n + m) sCap ≤ 400010000 := by omega
                        calc Builtin.nextslicecap (n + m) sCap * ei.bytes ≤ 400010000 * 1000 := Nat.mul_le_mul h2 b4
                          _ ≤ 281474976710656 := by omega
                      have hrun := run_append_grow_src (P := C.P) w t0 t1 ty e ei zv (und_of ok hu0) hinfo hzi2 base' n sCap olds (hfirst w.drew rfl) y' m news hsrc hlt (by omega) hfit
                      have hgc : n + m ≤ grownCap w (n + m) sCap e := grownCap_ge w (n + m) sCap e
                      have holdl : old.length = n * ei.size := by
                        cases base with
                        | none =>
                          obtain ⟨rfl, rfl, _⟩ := hx.nilslice_inv
                          simp only [firstC, if_true, Option.some.injEq] at hold; subst hold; simp
                        | some a =>
                          simp only [firstC] at hold
                          obtain ⟨_, p, _, hp, _⟩ := hx.slice_inv
                          exact (loadC_ok hR hold hp).choose_spec.2.1
                      have hnewl : new.length = m * ei.size := by rw [hns.1]; exact hsrc.newsLen
                      obtain ⟨Φ', k1, k2, k3⟩ := grow_ok hR1.drew hg hos hns hzP (by rw [List.length_append, holdl, hnewl, ← Nat.add_mul]) hgc (Builtin.zeroCells zv.cells (grownCap w (n + m) sCap e - (n + m))) (by rw [size_zeroCells, hzvs])
                      exact ⟨_, _, Φ', hrun, k1, k2, hS1.trans k3.drew⟩
                    have firstSome : ∀ (a : Addr) (p : Pl) (sCap : Nat), a.spot = none → Φ a.block = some p → firstC s ei.size n (.slice (some a) n c2) = some old → ∃ olds, VRs Φ old olds ∧ (∀ w2 : World, w2.heap = w.heap → (Builtin.firstCells ei.size n (.slice (some ⟨p.b, a.off, none⟩) n sCap)).run C.P w2 = .ok olds.toArray w2) := by
                      intro a p sCap hsp hp ho
                      simp only [firstC] at ho
                      obtain ⟨us, h1, h2, h3, h4⟩ := loadC_ok hR ho hp
                      refine ⟨us, h1, fun w2 hw2 => run_firstCells_some w2 ei.size n _ n sCap us (by rw [← h1.1, h2]) (fun j x hx => ?_)⟩
                      have := h3 j x hx
                      rw [show w2.cell? (Addr.add ⟨p.b, a.off, none⟩ j) = w.cell? (Addr.add ⟨p.b, a.off, none⟩ j) by simp [World.cell?, hw2]]
                      exact this
                    split at h
                    · obtain ⟨rfl, rfl, rfl⟩ := hx.nilslice_inv
                      simp only [firstC, if_true, Option.some.injEq] at hold; subst hold
                      exact growth s 0 none [] hR (Stp.refl hR) (by omega) (VRs.nil Φ) (fun w2 _ => run_firstCells_none w2 ei.size 0 0 0) h
                    · rename_i a
                      obtain ⟨hsp, p, cap, hp, rfl, g1, g2, g3⟩ := hx.slice_inv
                      obtain ⟨olds, f1, f2⟩ := firstSome a p cap hsp hp hold
                      split at h
                      · rename_i heven
                        have heven : c2 % 2 = 0 := Nat.eq_of_beq_eq_true heven
                        exact growth s cap _ olds hR (Stp.refl hR) (by rw [g1 heven]; omega) f1 f2 h
                      · rename_i hodd
                        have hodd : c2 % 2 = 1 := by
                          have : c2 % 2 ≠ 0 := fun e => hodd (by rw [e]; rfl)
                          omega
                        split at h
                        · rename_i e' vs lo hi hs
                          split at h
                          · rename_i hc
                            simp only [Bool.and_eq_true] at hc
                            obtain ⟨⟨⟨⟨k1, k2⟩, k3⟩, k4⟩, k5⟩ := hc
                            have k1 : a.off = 0 := Nat.eq_of_beq_eq_true k1
                            have k2 : e' = e := Nat.eq_of_beq_eq_true k2
                            have k3 : vs.length = n * ei.size := Nat.eq_of_beq_eq_true k3
                            have k4 : hi = 0 := Nat.eq_of_beq_eq_true k4
                            have k5 : lo = 0 := Nat.eq_of_beq_eq_true k5
                            subst k2 k4 k5
                            have hfr := hR.fresh _ _ hp
                            have hroom' := hR.room
                            obtain ⟨hRk, hSk⟩ := hR.kill a.block (by omega)
                            by_cases hcap : cap < n + m
                            · exact growth (kill s a.block) cap _ olds hRk hSk hcap f1 f2 h
                            · -- there is room: the same block
                              obtain ⟨p', c, hp', hcell, hor⟩ := hR.obj _ _ hs
                              rw [hp] at hp'; cases hp'
                              cases c <;> simp only [OR] at hor
                              rename_i cs ce fr
                              obtain ⟨o1, o2, o3, o4, o5, o6, o7⟩ := hor
                              have hz' : p.z = ei.size := by rw [o3, hzP]
                              have g3' := g3 hodd
                              rw [hz', k1] at g3'
                              have hul : news.length = new.length := hns.1.symm
                              have hnewl : news.length = m * ei.size := hsrc.newsLen
                              have hfits : n * ei.size + news.length ≤ cs.size := by
                                rw [hnewl, ← Nat.add_mul, o2]
                                have : (n + m) * ei.size ≤ cap * ei.size := Nat.mul_le_mul_right _ (by omega)
                                omega
                              have hrun := run_append_room_src (P := C.P) w t0 t1 ty e' ei (und_of ok hu0) hinfo p.b a.off n cap y' m news hsrc (by omega)
                                (fun j hj => by
                                  rw [show w.cell? ⟨p.b, a.off + n * ei.size + j, none⟩ = cs[a.off + n * ei.size + j]? by simp [World.cell?, hcell]]
                                  rw [Array.getElem?_eq_getElem (by omega)]; rfl)
                                (fun j hj => by
                                  cases hf : w.frozen? ⟨p.b, a.off + n * ei.size + j, none⟩ with
                                  | false => rfl
                                  | true =>
                                    simp [World.frozen?, hcell] at hf
                                    have := o7 _ hf.1 hf.2
                                    omega)
                              rw [k1, Nat.zero_add] at hrun
                              have hheap := setCells_heap p.b news (n * ei.size) w cs ce fr hcell hfits
                              -- the state with the old number gone, in the new world
                              have hbel := setCells_below (B := C.B) (a := C.w0) p.b (hR.lt _ p hp).1 news (n * ei.size) w hR.below
                              have hdead : ∀ j o q, (kill s a.block).heap.get j = some o → Φ j = some q → q.b ≠ p.b := by
                                intro j o q hj hq e2
                                have hne : j ≠ a.block := fun e3 => by
                                  have : (kill s a.block).heap.get a.block = none := Tr.get_set _ _ _ (by omega)
                                  rw [e3, this] at hj; cases hj
                                have hj' : s.heap.get j = some o := by
                                  have : (kill s a.block).heap.get j = s.heap.get j := Tr.get_set_ne _ _ _ _ hne
                                  rw [← this]; exact hj
                                exact hne (hR.inj j a.block o _ q p hj' hs hq hp e2)
                              have hRk2 : Rel C Φ (kill s a.block) (w.setCells p.b (n * ei.size) news) := by
                                refine ⟨hbel, hRk.fresh, fun j q hj => by rw [setCells_size]; exact hRk.lt j q hj, hRk.inj, fun j o hj => ?_, hRk.room⟩
                                obtain ⟨q, d, a1, a2, a3⟩ := hRk.obj j o hj
                                exact ⟨q, d, a1, by rw [setCells_other _ _ _ _ _ (hdead j o q hj a1)]; exact a2, a3⟩
                              unfold grow at h
                              split at h
                              · rename_i i s1 hnew2
                                simp only [Option.some.injEq, Prod.mk.injEq] at h
                                obtain ⟨rfl, rfl⟩ := h
                                obtain ⟨Φ', e1, e2, e3, e4, e5, e6, e7⟩ := hRk2.reuse hnew2 (p := p) hheap (hR.lt _ p hp).1 (fun Φ' he => by
                                  simp only [OR]
                                  refine ⟨o1, ?_, o3, ?_, (fun h => (by cases h)), ?_, o7⟩
                                  · show (over cs.toList (n * ei.size) news).length = p.n
                                    rw [over_length _ _ _ (by simpa using hfits)]; simpa using o2
                                  · rw [List.length_append, ← hns.1] at *
                                    have : old.length = n * ei.size := by
                                      simp only [firstC] at hold
                                      exact (loadC_ok hR hold hp).choose_spec.2.1
                                    omega
                                  · intro k x hx
                                    have holdl : old.length = n * ei.size := by
                                      simp only [firstC] at hold
                                      exact (loadC_ok hR hold hp).choose_spec.2.1
                                    rw [show (⟨over cs.toList (n * ei.size) news⟩ : Array Value)[k]? = (over cs.toList (n * ei.size) news)[k]? by simp]
                                    rw [over_get _ _ _ _ (by simpa using hfits)]
                                    by_cases hk : k < n * ei.size
                                    · rw [if_neg (by omega)]
                                      rw [List.getElem?_append_left (by omega)] at hx
                                      -- the old cell
                                      have hvk : vs[k]? = some x := by
                                        simp only [firstC, loadC, hs] at hold
                                        obtain ⟨_, hr, _⟩ := sub_len hold
                                        rw [hr, k1, List.drop_zero, List.getElem?_take, if_pos (by omega)] at hx
                                        exact hx
                                      obtain ⟨x', a1, a2⟩ := o6 k x hvk
                                      exact ⟨x', by simpa using a1, a2.mono he⟩
                                    · rw [List.getElem?_append_right (by omega), holdl] at hx
                                      have hlt : k - n * ei.size < new.length := (List.getElem?_eq_some_iff.1 hx).1
                                      rw [if_pos (by omega)]
                                      obtain ⟨u, a1, a2⟩ := hns.get hx
                                      exact ⟨u, a1, a2.mono he⟩) hdead
                                refine ⟨_, _, Φ', (by rw [k1]; exact hrun), ?_, e3, ?_⟩
                                · exact .slice i 0 (n + m) _ cap p e2 (fun h => by omega) (by omega) (fun _ => by rw [hz']; simpa using g3')
                                · refine ⟨e1, Nat.le_trans hSk.nx e7, fun j q hj hlt => hSk.old j q (e4 j q hj hlt) hlt, by rw [setCells_size]; exact Nat.le_refl _, ?_, ?_, ?_⟩
                                  · intro k hk hn
                                    exact setCells_other _ _ _ _ _ (fun e => hn a.block _ p hs hp e.symm)
                                  · intro j o q hj hq
                                    rcases e5 j o q hj hq with rfl | ⟨o', ho', hq'⟩
                                    · exact .inr ⟨a.block, _, q, hs, hp, rfl⟩
                                    · rcases hSk.img j o' q ho' hq' with h | h
                                      · exact .inl h
                                      · exact .inr h
                                  · intro j o hj hlo
                                    exact hSk.dom j o hj (e6 j o hj hlo)
                              · cases h
                          · cases h
                        · cases h
              · cases h
      · cases h
    · cases h
  · cases h
end
end Go.Abs
set_option linter.unusedSectionVars false
namespace Go.Abs
open Go Go.RowKit
variable [Toks]
variable {ds : List Deferred}
section
variable {C : Ctx} (ok : POK C) {Φ : Ph} {s : AS} {w : World}

include ok in
theorem copy_ok (hR : Rel C Φ s w) {t0 t1 ty : TypeId} {x y x' y' v : Value} {s' : AS} (h : aCopy C.E.T s t0 x y = some (v, s')) (hx : VR Φ x x') (hy : VR Φ y y') :
    ∃ u w', (Builtin.copy_ #[t0, t1] ty #[x', y']).run C.P w = .ok u w' ∧ VR Φ v u ∧ Rel C Φ s' w' ∧ Stp Φ s w Φ s' w' := by
  unfold aCopy at h
  split at h
  · rename_i e base dl c2 hu
    split at h
    · rename_i z m hz hm
      simp only at h
      split at h
      · cases h
      · rename_i cs hcs
        split at h
        · cases h
        · rename_i hone
          have hone : cs.all oneC = true := by simpa using hone
          have hsz := run_siz ok hz
          -- what is read
          have hsrc : ∃ us, VRs Φ cs us ∧ (∀ w, (Builtin.lenOf y').run C.P w = .ok m w) ∧ ((Builtin.firstCells z (Nat.min m dl) y').run C.P w = .ok us.toArray w) := by
            cases y <;> simp only [slen, Option.some.injEq] at hm <;> (try cases hm)
            · rename_i b
              cases hy.str_inv
              simp only [firstC, Option.some.injEq] at hcs
              refine ⟨cs, VRs.refl_of fun x hx => ?_, fun w => by simp only [Builtin.lenOf]; rw [ba_size]; rfl, ?_⟩
              · rw [← hcs] at hx
                obtain ⟨c, _, rfl⟩ := List.mem_map.1 hx
                exact .int Φ _ _
              · rw [← hcs]
                simp only [Builtin.firstCells, Sem.run_pure]
                congr 1
                apply Array.ext'
                simp [Abs.byteCells, List.map_take]
            · rename_i a c
              cases a with
              | none =>
                obtain ⟨rfl, rfl, rfl⟩ := hy.nilslice_inv
                simp only [firstC] at hcs
                rw [if_pos (by simp)] at hcs
                cases hcs
                exact ⟨[], VRs.nil Φ, fun w => by simp [Builtin.lenOf], by simp [Builtin.firstCells]⟩
              | some a =>
                obtain ⟨hsp, p, cap, hp, rfl, _⟩ := hy.slice_inv
                simp only [firstC] at hcs
                obtain ⟨us, h1, h2, h3, h4⟩ := loadC_ok hR hcs hp
                refine ⟨us, h1, fun w => by simp [Builtin.lenOf], ?_⟩
                simp only [Builtin.firstCells]
                have := h4
                exact this
          obtain ⟨us, h1, h2, h3⟩ := hsrc
          cases base with
          | none =>
            obtain ⟨rfl, rfl, rfl⟩ := hx.nilslice_inv
            have hv : (v, s') = (Value.int .i64 ((Nat.min m 0 : Nat) : Int), s) := by
              cases y <;> simp only [Option.some.injEq] at h <;> exact h.symm
            cases hv
            have hm0 : Nat.min m 0 = 0 := Nat.min_zero m
            rw [hm0] at h3 ⊢
            refine ⟨_, w, ?_, .int Φ _ _, hR, Stp.refl hR⟩
            simp [Builtin.copy_, run_und ok hu, h2, hsz, h3, goInt]
          | some a =>
            obtain ⟨hsp, p, cap, hp, rfl, _⟩ := hx.slice_inv
            have hst : ∃ s1, storeC s a.block a.off cs = some s1 ∧ (v, s') = (Value.int .i64 ((Nat.min m dl : Nat) : Int), s1) := by
              cases y <;> simp only at h <;> first
                | (cases h; done)
                | (split at h
                   · cases h; exact ⟨_, by assumption, rfl⟩
                   · cases h)
            obtain ⟨s1, hst, hv⟩ := hst
            cases hv
            obtain ⟨w', r1, r2, r3, r4⟩ := storeC_ok hR hst hp h1
            refine ⟨_, w', ?_, .int Φ _ _, r2, r3⟩
            simp [Builtin.copy_, run_und ok hu, h2, hsz, h3, goInt, r1]
    · cases h
  · cases h

/-! maps -/
theorem setNth_get {α : Type} : ∀ (l : List α) (i : Nat) (y : α) (j : Nat), (setNth l i y)[j]? = if j = i ∧ i < l.length then some y else l[j]? := by
  intro l
  induction l with
  | nil => intro i y j; simp [setNth]
  | cons x l ih =>
    intro i y j
    cases i with
    | zero => cases j <;> simp [setNth]
    | succ i =>
      cases j with
      | zero => simp [setNth]
      | succ j => simp [setNth, ih]
theorem setNth_length {α : Type} : ∀ (l : List α) (i : Nat) (y : α), (setNth l i y).length = l.length := by
  intro l
  induction l with
  | nil => intro i y; rfl
  | cons x l ih => intro i y; cases i <;> simp [setNth, ih]
theorem delNth_eq {α : Type} : ∀ (l : List α) (i : Nat), delNth l i = l.eraseIdx i := by
  intro l
  induction l with
  | nil => intro i; rfl
  | cons x l ih => intro i; cases i <;> simp [delNth, ih]

theorem OR.map_of {p : Pl} {es : List (Value × Value)} {ver clock : Nat} {ces : Array MapEntry} (h : ER Φ es ces.toList) : OR C Φ p (.map es ver) (.map ces clock) := by
  simp only [OR]
  exact ⟨by simpa using h.1, fun k q v hk => by simpa using h.2 k q v hk⟩

theorem ER.erase {es : List (Value × Value)} {ces : List MapEntry} (h : ER Φ es ces) (i : Nat) : ER Φ (es.eraseIdx i) (ces.eraseIdx i) := by
  refine ⟨by rw [List.length_eraseIdx, List.length_eraseIdx, h.1], fun k q v hk => ?_⟩
  rw [List.getElem?_eraseIdx] at hk ⊢
  split at hk
  · rename_i hlt; rw [if_pos hlt]; exact h.2 _ _ _ hk
  · rename_i hlt; rw [if_neg hlt]; exact h.2 _ _ _ hk

/-- the world with another object in a block above the base -/
theorem below_set {B : Nat} {a w : World} (h : Below B a w) (b : Nat) (hb : B ≤ b) (o : Obj) : Below B a { w with heap := w.heap.setIfInBounds b o } :=
  ⟨h.os, h.tape, h.output, by simpa using h.size, fun k hk => by
    show (w.heap.setIfInBounds b o)[k]? = _
    rw [Array.getElem?_setIfInBounds_ne (by omega)]; exact h.block k hk⟩

theorem Rel.setMap (hR : Rel C Φ s w) {r : Nat} {es es' : List (Value × Value)} {ver ver' : Nat} {p : Pl} (hs : s.heap.get r = some (.map es ver)) (hp : Φ r = some p) {ces' : Array MapEntry} {clock' : Nat}
    (he : ER Φ es' ces'.toList) : Rel C Φ (s.put r (.map es' ver')) { w with heap := w.heap.setIfInBounds p.b (.map ces' clock') } ∧ Stp Φ s w Φ (s.put r (.map es' ver')) { w with heap := w.heap.setIfInBounds p.b (.map ces' clock') } := by
  refine hR.change hs hp (c := .map ces' clock') ?_ (OR.map_of he) ?_ ?_ ?_
  · have := (hR.lt r p hp).2
    simp [this]
  · intro k hk
    show (w.heap.setIfInBounds p.b _)[k]? = _
    rw [Array.getElem?_setIfInBounds_ne (Ne.symm hk)]
  · simp
  · exact below_set hR.below _ (hR.lt r p hp).1 _

theorem sameBits_plain {T : Tr TypeInfo} {t : TypeId} {k q : Value} (hp : isPlainT T t k = true) (h : keyEq k q = some true) (n : Nat) : Instr.sameBits n q k = true := by
  rcases isPlainT_inv hp with ⟨_, x, rfl⟩ | ⟨kk, m, j, _, rfl⟩ | ⟨_, x, rfl⟩
  · cases q <;> simp only [keyEq] at h <;> (try cases h)
    simp at h; subst h; simp [Instr.sameBits]
  · cases q <;> simp only [keyEq] at h <;> (try cases h)
    split at h
    · rename_i e; subst e; simp at h; subst h; simp [Instr.sameBits]
    · cases h
  · cases q <;> simp only [keyEq] at h <;> (try cases h)
    rename_i b
    simp only [Option.some.injEq] at h
    rw [← beqL_beq] at h
    have : x = b := by
      have e : x.data.toList = b.data.toList := by simpa using h
      cases x; cases b; rename_i xa ba; cases xa; cases ba; simp_all
    subst this
    cases n <;> (simp only [Instr.sameBits, beq_toListBytes]; simp)

theorem findE_same : ∀ {es : List (Value × Value)} {k : Value} {i0 i : Nat} {v : Value}, findE k es i0 = some (some (i, v)) → i0 ≤ i ∧ ∃ q, es[i - i0]? = some (q, v) ∧ keyEq k q = some true := by
  intro es
  induction es with
  | nil => intro k i0 i v h; simp [findE] at h
  | cons e es ih =>
    obtain ⟨q, u⟩ := e
    intro k i0 i v h
    simp only [findE] at h
    split at h
    · rename_i hb
      cases h
      exact ⟨Nat.le_refl _, q, by simp, hb⟩
    · obtain ⟨h1, q', h2, h3⟩ := ih h
      refine ⟨by omega, q', ?_, h3⟩
      rw [show i - i0 = (i - (i0 + 1)) + 1 by omega]
      simpa using h2
    · cases h

include ok in
theorem mapUpdate_ok (hR : Rel C Φ s w) {t : TypeId} {m k v m' k' v' : Value} {s' : AS} (h : aMapUpdate C.E.T s t m k v = some s') (hm : VR Φ m m') (hk : VR Φ k k') (hv : VR Φ v v') :
    ∃ w', (Instr.mapUpdate t m' k' v').run C.P w = .ok () w' ∧ Rel C Φ s' w' ∧ Stp Φ s w Φ s' w' := by
  unfold aMapUpdate at h
  split at h
  · rename_i kt et r hu
    split at h
    · rename_i es ver hs
      obtain ⟨p, hp, rfl⟩ := hm.map_inv
      obtain ⟨ces, clock, h1, her⟩ := hR.map hs hp
      have hd : ∃ d, und C.E.T kt = some d := by
        cases hk : und C.E.T kt with
        | some d => exact ⟨d, rfl⟩
        | none => simp [findM, flatKey, hk] at h
      obtain ⟨d, hd⟩ := hd
      split at h
      · rename_i i x hf
        cases h
        obtain ⟨r', g1, g2, g3⟩ := findM_ok ok hd hf hk her w
        cases r' with
        | none => exact g2.elim
        | some r' =>
          obtain ⟨j, u⟩ := r'
          obtain ⟨rfl, hxu⟩ := g2
          -- the key that is there
          have hf' : isPlainT C.E.T kt k = true ∧ findE k es 0 = some (some (i, x)) := by
            unfold findM at hf
            split at hf
            · split at hf
              · cases hf
              · split at hf
                · exact ⟨by assumption, hf⟩
                · cases hf
            · cases hf
          obtain ⟨hpl, hfe⟩ := hf'
          obtain ⟨_, q, e1, e2⟩ := findE_same hfe
          simp only [Nat.sub_zero] at e1
          obtain ⟨ce, c1, c2, c3⟩ := her.2 i q x e1
          have hqk : Instr.sameBits 10000 ce.key k' = true := by
            have a1 := plain_flat hpl hk
            subst a1
            have hpq : isPlainT C.E.T kt q = true ∨ True := .inr trivial
            -- q is the same kind of value
            have : ce.key = q := by
              rcases isPlainT_inv hpl with ⟨_, y, rfl⟩ | ⟨kk, n, j, _, rfl⟩ | ⟨_, y, rfl⟩ <;> cases q <;> simp only [keyEq] at e2 <;> first
                | (cases e2; done)
                | exact c2.bool_inv
                | exact c2.int_inv
                | exact c2.str_inv
            rw [this]
            exact sameBits_plain hpl e2 10000
          have hlt : i < ces.size := by
            have := (List.getElem?_eq_some_iff.1 c1).1; simpa using this
          have c1' : ces[i]? = some ce := by simpa using c1
          obtain ⟨r1, r2⟩ := hR.setMap (es' := setNth es i (k, v)) (ver' := ver + 1) hs hp (ces' := ces.modify i fun e => { e with key := k', val := v' }) (clock' := clock) (by
            refine ⟨by rw [setNth_length, her.1]; simp, fun j q2 v2 hj => ?_⟩
            rw [setNth_get] at hj
            have hmod : (ces.modify i fun e => { e with key := k', val := v' }).toList[j]? = (if i = j then (ces[j]?).map (fun e => { e with key := k', val := v' }) else ces[j]?) := by
              rw [Array.getElem?_toList, Array.getElem?_modify]
            rw [hmod]
            split at hj
            · rename_i hji
              cases hj
              obtain ⟨rfl, _⟩ := hji
              rw [if_pos rfl, c1']
              exact ⟨_, rfl, hk, hv⟩
            · rename_i hji
              have hne : ¬ i = j := by
                intro e; subst e
                apply hji
                exact ⟨rfl, by rw [her.1]; simpa using hlt⟩
              rw [if_neg hne]
              simpa using her.2 j q2 v2 hj)
          refine ⟨_, ?_, r1, r2⟩
          simp [Instr.mapUpdate, run_und ok hu, run_getMap h1, g3, g1, c1', Instr.keyThatStays, hqk, MapKept.run_setObj_map _ h1]
      · rename_i hf
        cases h
        obtain ⟨r', g1, g2, g3⟩ := findM_ok ok hd hf hk her w
        cases r' with
        | some r' => exact g2.elim
        | none =>
          obtain ⟨r1, r2⟩ := hR.setMap (es' := es ++ [(k, v)]) (ver' := ver + 1) hs hp (ces' := ces.push { key := k', val := v', born := clock }) (clock' := clock + 1) (by
            refine ⟨by simp [her.1], fun j q2 v2 hj => ?_⟩
            rw [Array.toList_push]
            by_cases hlt : j < es.length
            · rw [List.getElem?_append_left hlt] at hj
              rw [List.getElem?_append_left (by rw [← her.1]; exact hlt)]
              exact her.2 j q2 v2 hj
            · rw [List.getElem?_append_right (by omega)] at hj
              rw [List.getElem?_append_right (by rw [← her.1]; omega), ← her.1]
              cases hjj : j - es.length with
              | zero => rw [hjj] at hj; simp at hj; obtain ⟨rfl, rfl⟩ := hj; exact ⟨_, rfl, hk, hv⟩
              | succ n => rw [hjj] at hj; simp at hj)
          refine ⟨_, ?_, r1, r2⟩
          simp [Instr.mapUpdate, run_und ok hu, run_getMap h1, g3, g1, MapKept.run_setObj_map _ h1]
      · cases h
    · cases h
  · cases h

include ok in
theorem delete_ok (hR : Rel C Φ s w) {t t1 ty : TypeId} {m k m' k' : Value} {s' : AS} (h : aDelete C.E.T s t m k = some s') (hm : VR Φ m m') (hk : VR Φ k k') :
    ∃ w', (Builtin.delete_ #[t, t1] ty #[m', k']).run C.P w = .ok undef w' ∧ Rel C Φ s' w' ∧ Stp Φ s w Φ s' w' := by
  unfold aDelete at h
  split at h
  · rename_i kt et r hu
    split at h
    · rename_i es ver hs
      obtain ⟨p, hp, rfl⟩ := hm.map_inv
      obtain ⟨ces, clock, h1, her⟩ := hR.map hs hp
      have hd : ∃ d, und C.E.T kt = some d := by
        cases hk : und C.E.T kt with
        | some d => exact ⟨d, rfl⟩
        | none => simp [findM, flatKey, hk] at h
      obtain ⟨d, hd⟩ := hd
      split at h
      · rename_i i x hf
        cases h
        obtain ⟨r', g1, g2, g3⟩ := findM_ok ok hd hf hk her w
        cases r' with
        | none => exact g2.elim
        | some r' =>
          obtain ⟨j, u⟩ := r'
          obtain ⟨rfl, hxu⟩ := g2
          obtain ⟨r1, r2⟩ := hR.setMap (es' := delNth es i) (ver' := ver + 1) hs hp (ces' := ces.eraseIdxIfInBounds i) (clock' := clock) (by
            rw [delNth_eq, Array.toList_eraseIdxIfInBounds]
            exact her.erase i)
          refine ⟨_, ?_, r1, r2⟩
          simp [Builtin.delete_, run_und ok hu, run_getMap h1, g3, g1, MapKept.run_setObj_map _ h1, undef]
      · rename_i hf
        cases h
        obtain ⟨r', g1, g2, g3⟩ := findM_ok ok hd hf hk her w
        cases r' with
        | some r' => exact g2.elim
        | none =>
          refine ⟨w, ?_, hR, Stp.refl hR⟩
          have hsame : ({ w with heap := w.heap.setIfInBounds p.b (.map ces clock) } : World) = w := by
            have : w.heap.setIfInBounds p.b (.map ces clock) = w.heap := by
              apply Array.ext_getElem?
              intro i
              rw [Array.getElem?_setIfInBounds]
              split
              · rename_i e; subst e; split
                · exact h1.symm
                · rw [Array.getElem?_eq_none (by omega)]
              · rfl
            rw [this]
          simp [Builtin.delete_, run_und ok hu, run_getMap h1, g3, g1, MapKept.run_setObj_map _ h1, undef, hsame]
      · cases h
    · cases h
  · rename_i kt et hu
    split at h
    · rename_i hf
      cases h
      cases hm.nilmap_inv
      refine ⟨w, ?_, hR, Stp.refl hR⟩
      simp [Builtin.delete_, run_und ok hu, checkKey_ok ok hf hk, undef]
    · cases h
  · cases h

/-- what an operation that writes leaves: in the model it yields a value or nothing -/
def Yield (v : Value) : Next → Prop
  | .value u => u = v
  | .skip => v = undef
  | _ => False

include ok in
theorem store_ok (hR : Rel C Φ s w) {t : TypeId} {v x' v' : Value} {a : Addr} {s' : AS} (h : storeV C.E.T s t a.block a.off v = some s') (hx : VR Φ (.pointer (some a)) x') (hv : VR Φ v v') :
    ∃ w', (Instr.storeAt t x' v').run C.P w = .ok () w' ∧ Rel C Φ s' w' ∧ Stp Φ s w Φ s' w' := by
  unfold storeV at h
  split at h
  · rename_i n hn
    split at h
    · rename_i hl
      obtain ⟨hsp, p, hp, rfl⟩ := hx.ptr_inv
      have hc := hv.cells
      obtain ⟨w', r1, r2, r3, r4⟩ := storeC_ok hR h hp hc
      refine ⟨w', ?_, r2, r3⟩
      have hsz : v'.cells.size = n := by
        have := hc.1; simp at this; omega
      simp [Instr.storeAt, Instr.sureAddr, storeVar, run_siz ok hn, hsz, r1]
    · cases h
  · cases h

include ok in
theorem builtinE_ok (hR : Rel C Φ s w) {b : Builtin} {ats : List TypeId} {xs us : List Value} {v : Value} {s' : AS} (h : aBuiltinE C.E s b ats xs = some (v, s')) (hx : VRs Φ xs us) (ty : TypeId) (cs : Array Bool) :
    ∃ u w' Φ', (builtin b ⟨ats⟩ ty cs ⟨us⟩).run C.P w = .ok (.value u) w' ∧ VR Φ' v u ∧ Rel C Φ' s' w' ∧ Stp Φ s w Φ' s' w' := by
  unfold aBuiltinE at h
  split at h
  · rename_i t0 t1 x y
    obtain ⟨x', us', rfl, hx1, hx2⟩ := hx.head
    obtain ⟨y', us', rfl, hy1, hy2⟩ := hx2.head
    cases hy2.nil_inv
    obtain ⟨u, w', Φ', r1, r2, r3, r4⟩ := append_ok ok hR (ty := ty) h hx1 hy1
    exact ⟨u, w', Φ', by simp only [builtin]; simp [r1], r2, r3, r4⟩
  · rename_i t0 t1 x y
    obtain ⟨x', us', rfl, hx1, hx2⟩ := hx.head
    obtain ⟨y', us', rfl, hy1, hy2⟩ := hx2.head
    cases hy2.nil_inv
    obtain ⟨u, w', r1, r2, r3, r4⟩ := copy_ok ok hR (t1 := t1) (ty := ty) h hx1 hy1
    exact ⟨u, w', Φ, by simp only [builtin]; simp [r1], r2, r3, r4⟩
  · rename_i t0 t1 x y
    obtain ⟨x', us', rfl, hx1, hx2⟩ := hx.head
    obtain ⟨y', us', rfl, hy1, hy2⟩ := hx2.head
    cases hy2.nil_inv
    split at h
    · rename_i s1 hs
      cases h
      obtain ⟨w', r1, r2, r3⟩ := delete_ok ok hR (t1 := t1) (ty := ty) hs hx1 hy1
      exact ⟨undef, w', Φ, by simp only [builtin]; simp [r1], .undef Φ, r2, r3⟩
    · cases h
  · cases h

/-! a range over a map without entries -/
include ok in
theorem range_ok (hR : Rel C Φ s w) {t : TypeId} {kt et : TypeId} {x' v : Value} {m : Option Nat} {s' : AS} (hu : und C.E.T t = some (.map kt et)) (hm : ∀ r, m = some r → ∃ es ver, s.heap.get r = some (.map es ver)) (hx : VR Φ (.map m) x')
    (h : (match s.new (.iter m 0 0) with | some (i, s') => some (ptr i 0, s') | none => none) = some (v, s')) :
    ∃ u w' Φ', (Instr.range t x').run C.P w = .ok u w' ∧ VR Φ' v u ∧ Rel C Φ' s' w' ∧ Stp Φ s w Φ' s' w' := by
  split at h
  · rename_i i s1 hs
    simp only [Option.some.injEq, Prod.mk.injEq] at h
    obtain ⟨rfl, rfl⟩ := h
    cases m with
    | none =>
      cases hx.nilmap_inv
      obtain ⟨Φ', h1, h2, h3, h4⟩ := hR.new hs (.mapIter none 0 #[] 0) 1 1 (fun Φ' _ _ => by simp only [OR])
      exact ⟨.pointer (some ⟨w.heap.size, 0, none⟩), _, Φ', by simp [Instr.range, run_und ok hu], .ptr i 0 _ h2, h3, h4⟩
    | some m =>
      obtain ⟨p, hp, rfl⟩ := hx.map_inv
      obtain ⟨es, ver, hes⟩ := hm m rfl
      obtain ⟨ces, clock, g1, g2⟩ := hR.map hes hp
      obtain ⟨Φ', h1, h2, h3, h4⟩ := hR.new hs (.mapIter (some p.b) clock #[] clock) 1 1 (fun Φ' he _ => by simp only [OR]; exact ⟨trivial, p, he _ _ hp, rfl⟩)
      exact ⟨.pointer (some ⟨w.heap.size, 0, none⟩), _, Φ', by simp [Instr.range, run_und ok hu, run_getMap g1], .ptr i 0 _ h2, h3, h4⟩
  · cases h

theorem next_ok (hR : Rel C Φ s w) {a : Addr} {m : Option Nat} {ver k : Nat} {x' : Value} {ty : TypeId} (ho : a.off = 0) (hs : s.heap.get a.block = some (.iter m ver k)) (hm : ∀ r, m = some r → ∃ ver, s.heap.get r = some (.map [] ver)) (hx : VR Φ (.pointer (some a)) x') :
    ∃ w', (Instr.next x' false ty).run C.P w = .ok (.tuple #[.bool false]) w' ∧ Rel C Φ s w' ∧ Stp Φ s w Φ s w' := by
  obtain ⟨_, p, hp, rfl⟩ := hx.ptr_inv
  obtain ⟨p', c, hp', hc, hor⟩ := hR.obj _ _ hs
  rw [hp] at hp'; cases hp'
  rw [ho]
  cases m with
  | none =>
    cases c <;> simp only [OR] at hor
    rename_i mm since seen stepped
    cases mm with
    | some _ => simp only [OR] at hor
    | none =>
      refine ⟨w, ?_, hR, Stp.refl hR⟩
      have hg : (getObj p.b).run C.P w = .ok (.mapIter none since seen stepped) w := by simp [getObj, Sem.run, hc]
      simp [Instr.next, hg]
  | some m =>
    cases c <;> simp only [OR] at hor
    rename_i mm since seen stepped
    cases mm with
    | none => simp only [OR] at hor
    | some b =>
      simp only [OR] at hor
      obtain ⟨rfl, q, hq, rfl⟩ := hor
      obtain ⟨ver', hmm⟩ := hm m rfl
      obtain ⟨ces, clock, g1, g2⟩ := hR.map hmm hq
      have hces : ces = #[] := by
        apply Array.ext'
        have := g2.1
        cases hl : ces.toList with
        | nil => rfl
        | cons _ _ => rw [hl] at this; simp at this
      subst hces
      have hg : (getObj p.b).run C.P w = .ok (.mapIter (some q.b) since #[] stepped) w := by simp [getObj, Sem.run, hc]
      refine ⟨w, ?_, hR, Stp.refl hR⟩
      simp [Instr.next, hg, run_getMap g1, Question.forced]

include ok in
theorem eff_ok (hR : Rel C Φ s w) {fr : Fr} {a : Act} (hF : FR ds Φ fr a) {op : Op} {v : Value} {s' : AS} (h : aEff C.E fr s op = some (v, s')) (o : Oper) (ho : o.op = op) :
    ∃ n u w' Φ', (execOp a.eval o).run C.P w = .ok n w' ∧ (n = .value u ∨ (n = .skip ∧ u = undef)) ∧ VR Φ' v u ∧ Rel C Φ' s' w' ∧ Stp Φ s w Φ' s' w' := by
  obtain ⟨dst, oop, ty, pos, after, guard⟩ := o
  simp only at ho; subst ho
  have upd : ∀ t m k x, (match opd fr m, opd fr k, opd fr x with
      | some m, some k, some v => (match aMapUpdate C.E.T s t m k v with | some s' => some (undef, s') | none => none)
      | _, _, _ => none) = some (v, s') → ∃ n u w' Φ', ((do Instr.mapUpdate t (a.eval m) (a.eval k) (a.eval x); pure Next.skip : Sem Next)).run C.P w = .ok n w' ∧ (n = .value u ∨ (n = .skip ∧ u = undef)) ∧ VR Φ' v u ∧ Rel C Φ' s' w' ∧ Stp Φ s w Φ' s' w' := by
    intro t m k x h
    split at h
    · rename_i m1 k1 x1 h1 h2 h3
      split at h
      · rename_i s1 hs
        cases h
        obtain ⟨w', r1, r2, r3⟩ := mapUpdate_ok ok hR hs (hF.opd h1) (hF.opd h2) (hF.opd h3)
        exact ⟨.skip, undef, w', Φ, by simp [r1], .inr ⟨rfl, rfl⟩, .undef Φ, r2, r3⟩
      · cases h
    · cases h
  unfold aEff at h
  split at h
  · exact upd _ _ _ _ h
  · exact upd _ _ _ _ h
  · rename_i t x y
    split at h
    · rename_i ad v1 h1 h2
      split at h
      · rename_i s1 hs
        cases h
        obtain ⟨w', r1, r2, r3⟩ := store_ok ok hR hs (hF.opd h1) (hF.opd h2)
        exact ⟨.skip, undef, w', Φ, by simp [execOp, r1], .inr ⟨rfl, rfl⟩, .undef Φ, r2, r3⟩
      · cases h
    · cases h
  · rename_i b args ats
    split at h
    · rename_i vs h1
      have hus := hF.opds h1
      have e : args.map a.eval = (⟨args.toList.map a.eval⟩ : Array Value) := by apply Array.ext'; simp
      simp only [execOp, resolve, Sem.run_bind, Sem.run_pure, Result.andThen_ok, invoke, e]
      obtain ⟨u, w', Φ', r1, r2, r3, r4⟩ := builtinE_ok ok hR h hus ty (args.map fun | .const _ => true | _ => false)
      exact ⟨.value u, u, w', Φ', r1, .inl rfl, r2, r3, r4⟩
    · cases h
  · rename_i t x
    split at h
    · rename_i kt et hu hx
      obtain ⟨u, w', Φ', r1, r2, r3, r4⟩ := range_ok ok hR hu (fun r hr => by cases hr) (hF.opd hx) h
      exact ⟨.value u, u, w', Φ', by simp [execOp, r1], .inl rfl, r2, r3, r4⟩
    · rename_i kt et m hu hx
      split at h
      · rename_i es ver hm
        obtain ⟨u, w', Φ', r1, r2, r3, r4⟩ := range_ok ok hR hu (fun r hr => by cases hr; exact ⟨es, ver, hm⟩) (hF.opd hx) h
        exact ⟨.value u, u, w', Φ', by simp [execOp, r1], .inl rfl, r2, r3, r4⟩
      · cases h
    · cases h
  · rename_i it str
    split at h
    · cases h
    · rename_i hstr
      have hstr : str = false := by simpa using hstr
      subst hstr
      split at h
      · rename_i ad hx
        split at h
        · rename_i hoff
          have hoff := Nat.eq_of_beq_eq_true hoff
          split at h
          · rename_i ver k hs
            cases h
            obtain ⟨w', r1, r2, r3⟩ := next_ok hR (ty := ty) hoff hs (fun r hr => by cases hr) (hF.opd hx)
            exact ⟨.value _, _, w', Φ, by simp [execOp, r1], .inl rfl, .ground rfl, r2, r3⟩
          · rename_i m ver k hs
            split at h
            · rename_i ver' hm
              cases h
              obtain ⟨w', r1, r2, r3⟩ := next_ok hR (ty := ty) hoff hs (fun r hr => by cases hr; exact ⟨_, hm⟩) (hF.opd hx)
              exact ⟨.value _, _, w', Φ, by simp [execOp, r1], .inl rfl, .ground rfl, r2, r3⟩
            · cases h
          · cases h
        · cases h
      · cases h
  · cases h
end
end Go.Abs
