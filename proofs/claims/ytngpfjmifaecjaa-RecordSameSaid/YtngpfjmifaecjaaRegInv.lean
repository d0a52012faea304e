/- A region that draws its order, by an invariant: what holds of the slots that are filled, and of the world, whatever has come up. No condition. -/
import Derived.Test.YtngpfjmifaecjaaKt
import Derived.Laws.Rows
import Derived.Deep.MidRow
import Derived.BigCall
namespace Go.Proofs.Ytngpfjmifaecjaa
open Go.RowKit
section
variable {P : Program} {ops : Array Oper} {Q : Exit → Act → World → Prop} {md : Region.Mode}

theorem getD_set_eq (L : Array Bool) (i : Nat) (h : i < L.size) : (fun j => (L.setIfInBounds i true).getD j false) = (fun j => decide (j = i) || L.getD j false) := by
  funext j
  by_cases e : j = i
  · subst e
    simp [h]
  · simp [e, Array.getElem?_setIfInBounds_ne (fun h => e h.symm)]
theorem unlisted_lt {L : Array Bool} {i : Nat} (h : L.getD i true = false) : i < L.size ∧ L.getD i false = false := by
  by_cases hi : i < L.size
  · refine ⟨hi, ?_⟩
    simp [hi] at h ⊢
    exact h
  · simp [Array.getElem?_eq_none (Nat.le_of_not_lt hi)] at h
/-- no edge leads to a later operation -/
def lowEdges (ops : Array Oper) : Bool := (List.range ops.size).all fun i => match ops[i]? with | some o => o.after.all (fun e => decide (e.on < i)) && o.guard.isNone | none => true
theorem lowEdges_spec (h : lowEdges ops = true) {i : Nat} {o : Oper} (ho : ops[i]? = some o) : (∀ e ∈ o.after, e.on < i) ∧ o.guard = none := by
  have hi : i < ops.size := (Array.getElem?_eq_some_iff.1 ho).1
  have := List.all_eq_true.1 h i (List.mem_range.2 hi)
  rw [ho] at this
  simp only [Bool.and_eq_true] at this
  refine ⟨fun e he => ?_, by simpa using this.2⟩
  have := Array.all_eq_true'.1 this.1 e he
  simpa using this
theorem all_listed (hlow : lowEdges ops = true) {L : Array Bool} (hL : L.size = ops.size) (h : Region.ready md ops L = []) : ∀ i, i < ops.size → L.getD i false = true := by
  intro i
  induction i using Nat.strongRecOn with
  | _ i ih =>
    intro hi
    cases hb : L.getD i false with
    | true => rfl
    | false =>
      exfalso
      have hm : i ∈ Region.ready md ops L := mem_ready.2 ⟨by
        have hi' : i < L.size := by omega
        simp [hi'] at hb ⊢
        exact hb, ops[i], Array.getElem?_eq_getElem hi, fun e he _ => ih e.on ((lowEdges_spec hlow (Array.getElem?_eq_getElem hi)).1 e he) (by have := (lowEdges_spec hlow (Array.getElem?_eq_getElem hi)).1 e he; omega)⟩
      rw [h] at hm
      cases hm
theorem wpAny_inv (hlow : lowEdges ops = true) {Inv : (Nat → Bool) → Act → World → Prop}
    (hstep : ∀ f a w, Inv f a w → ∀ i o, ops[i]? = some o → f i = false → (∀ e ∈ o.after, Region.binds md e = true → f e.on = true) → o.wp P a w (Inv (fun j => decide (j = i) || f j)) Q)
    (hend : ∀ f a w, (∀ i, i < ops.size → f i = true) → Inv f a w → Q .normal a w) :
    ∀ (fuel : Nat) (L : Array Bool) (a : Act) (w : World), L.size = ops.size → L.toList.countP (fun b => !b) ≤ fuel → Inv (fun j => L.getD j false) a w → wpAny P md ops Q fuel L a w := by
  intro fuel
  induction fuel with
  | zero =>
    intro L a w hL hc hI
    have hr : Region.ready md ops L = [] := by
      apply List.eq_nil_iff_forall_not_mem.2
      intro i hi
      obtain ⟨h1, _⟩ := mem_ready.1 hi
      obtain ⟨h2, h3⟩ := unlisted_lt h1
      have h0 : L.toList.countP (fun b => !b) = 0 := by omega
      rw [List.countP_eq_zero] at h0
      have := h0 (L[i]) (Array.getElem_mem_toList h2)
      simp [h2] at h3
      simp [h3] at this
    exact ⟨hr, hend _ a w (all_listed hlow hL hr) hI⟩
  | succ fuel ih =>
    intro L a w hL hc hI
    refine ⟨fun hr => hend _ a w (all_listed hlow hL hr) hI, fun i hi => ?_⟩
    obtain ⟨h1, o, ho, hall⟩ := mem_ready.1 hi
    obtain ⟨h2, h3⟩ := unlisted_lt h1
    have hs := hstep _ a w hI i o ho h3 hall
    unfold wpOp
    rw [ho]
    simp only
    have hg : Region.wanted o (yielded ops a.tmps) = true := by simp [Region.wanted, (lowEdges_spec hlow ho).2]
    rw [if_pos hg]
    refine .inl (Oper.wp_mono (fun a' w' h => ih _ a' w' (by simp [hL]) ?_ ?_) hs)
    · have hset : (L.setIfInBounds i true).toList = L.toList.set i true := by simp
      rw [hset, List.countP_set (by simpa using h2)]
      have hLi : L.toList[i]'(by simpa using h2) = false := by
        simp [h2] at h3
        simpa using h3
      have hpos : 0 < L.toList.countP (fun b => !b) := List.countP_pos_iff.2 ⟨_, List.getElem_mem (by simpa using h2), by rw [hLi]; rfl⟩
      rw [hLi]
      simp only [Bool.not_false, Bool.not_true, Bool.false_eq_true, if_false, if_true]
      omega
    · rw [getD_set_eq L i h2]
      exact h
/-- THE LAW -/
theorem wp_region_inv {id : Nat} {a : Act} {w : World} (hm : P.follows .mixedOrders = true) (hlow : lowEdges ops = true) (Inv : (Nat → Bool) → Act → World → Prop)
    (h0 : Inv (fun _ => false) a w.drew)
    (hstep : ∀ f a w, Inv f a w → ∀ i o, ops[i]? = some o → f i = false → (∀ e ∈ o.after, Region.binds .any e = true → f e.on = true) → o.wp P a w (Inv (fun j => decide (j = i) || f j)) Q)
    (hend : ∀ f a w, (∀ i, i < ops.size → f i = true) → Inv f a w → Q .normal a w) : (Code.region id ops true).wp P Q a w := by
  refine wp_region_any hm (wpAny_inv hlow hstep hend ops.size _ a _ (by simp) ?_ ?_)
  · refine Nat.le_trans List.countP_le_length (by simp)
  · have e : (fun j => (Array.replicate ops.size false).getD j false) = (fun _ => false) := by
      funext j
      by_cases hj : j < ops.size <;> simp [hj]
    rw [e]
    exact h0

/-- the slots that a region fills: S says what holds of the value of the k-th operation -/
structure Slots (a0 : Act) (ds : List (Nat × Nat)) (S : Nat → (Nat → Bool) → World → Value → Prop) (W : (Nat → Bool) → World → Prop) (f : Nat → Bool) (a : Act) (w : World) : Prop where
  defers : a.defers = a0.defers
  size : a.tmps.size = a0.tmps.size
  same : ∀ j, j ∉ ds.map (·.2) → a.tmps.getD j undef = a0.tmps.getD j undef
  slot : ∀ p ∈ ds, f p.1 = true → S p.1 f w (a.tmps.getD p.2 undef)
  rest : ∀ p ∈ ds, f p.1 = false → a.tmps.getD p.2 undef = a0.tmps.getD p.2 undef
  world : W f w
variable {a0 a : Act} {ds : List (Nat × Nat)} {S : Nat → (Nat → Bool) → World → Value → Prop} {W : (Nat → Bool) → World → Prop} {f : Nat → Bool} {w w' : World}
theorem Slots.start (h : W (fun _ => false) w) : Slots a0 ds S W (fun _ => false) a0 w := ⟨rfl, rfl, fun _ _ => rfl, fun _ _ h => by simp at h, fun _ _ _ => rfl, h⟩
theorem Slots.eval (h : Slots a0 ds S W f a w) {k d : Nat} (hd : (k, d) ∈ ds) (hf : f k = true) : S k f w (a.eval (.tmp d)) := h.slot (k, d) hd hf
theorem Slots.old (h : Slots a0 ds S W f a w) {j : Nat} (hj : j ∉ ds.map (·.2)) : a.eval (.tmp j) = a0.tmps.getD j undef := h.same j hj
/-- a slot that its operation has not filled yet -/
theorem Slots.fresh (h : Slots a0 ds S W f a w) {k d : Nat} (hd : (k, d) ∈ ds) (hf : f k = false) : a.eval (.tmp d) = a0.tmps.getD d undef := h.rest (k, d) hd hf
/-- no slot is filled by two operations, each operation fills one -/
def slotsOk (n : Nat) (ds : List (Nat × Nat)) : Bool := ds.all fun p => decide (p.2 < n) && ds.all fun q => (decide (p.1 = q.1) == decide (p.2 = q.2))
theorem Slots.put (h : Slots a0 ds S W f a w) (hok : slotsOk a0.tmps.size ds = true) {i d : Nat} (hd : (i, d) ∈ ds) {v : Value} (hW : W (fun j => decide (j = i) || f j) w') (hS : S i (fun j => decide (j = i) || f j) w' v)
    (hpres : ∀ p ∈ ds, p.1 ≠ i → f p.1 = true → S p.1 f w (a.tmps.getD p.2 undef) → S p.1 (fun j => decide (j = i) || f j) w' (a.tmps.getD p.2 undef)) : Slots a0 ds S W (fun j => decide (j = i) || f j) (a.put (some d) v) w' := by
  have hok' := fun p hp => List.all_eq_true.1 hok p hp
  have hlt : d < a.tmps.size := by
    rw [h.size]
    have := hok' _ hd
    simp only [Bool.and_eq_true, decide_eq_true_eq] at this
    exact this.1
  have hget : ∀ j, (a.put (some d) v).tmps.getD j undef = if j = d then v else a.tmps.getD j undef := by
    intro j
    unfold Act.put
    by_cases e : j = d
    · subst e
      simp [hlt]
    · simp [e, Array.getElem?_setIfInBounds_ne (fun h => e h.symm)]
  refine ⟨h.defers, by rw [← h.size]; simp [Act.put], fun j hj => ?_, fun p hp hfp => ?_, fun p hp hfp => ?_, hW⟩
  · rw [hget, if_neg (fun e => hj (List.mem_map.2 ⟨_, hd, e.symm⟩))]
    exact h.same j hj
  · rw [hget]
    have hpq := hok' _ hp
    simp only [Bool.and_eq_true, decide_eq_true_eq] at hpq
    have hiff := List.all_eq_true.1 hpq.2 _ hd
    by_cases e : p.1 = i
    · have e2 : p.2 = d := by simpa [e] using hiff
      rw [if_pos e2, e]
      exact hS
    · have e2 : ¬ p.2 = d := by simpa [e] using hiff
      rw [if_neg e2]
      have hf' : f p.1 = true := by simpa [e] using hfp
      exact hpres p hp e hf' (h.slot p hp hf')
  · rw [hget]
    have hpq := hok' _ hp
    simp only [Bool.and_eq_true, decide_eq_true_eq] at hpq
    have hiff := List.all_eq_true.1 hpq.2 _ hd
    have hf2 : ¬ p.1 = i ∧ f p.1 = false := by simpa using hfp
    have e2 : ¬ p.2 = d := by simpa [hf2.1] using hiff
    rw [if_neg e2]
    exact h.rest p hp hf2.2
theorem Slots.pass (h : Slots a0 ds S W f a w) {i : Nat} (hd : ∀ p ∈ ds, p.1 ≠ i) {v : Value} (hW : W (fun j => decide (j = i) || f j) w')
    (hpres : ∀ p ∈ ds, p.1 ≠ i → f p.1 = true → S p.1 f w (a.tmps.getD p.2 undef) → S p.1 (fun j => decide (j = i) || f j) w' (a.tmps.getD p.2 undef)) : Slots a0 ds S W (fun j => decide (j = i) || f j) (a.put none v) w' := by
  refine ⟨h.defers, h.size, h.same, fun p hp hfp => ?_, fun p hp hfp => ?_, hW⟩
  · have e := hd p hp
    have hf' : f p.1 = true := by simpa [e] using hfp
    exact hpres p hp e hf' (h.slot p hp hf')
  · have hf2 : ¬ p.1 = i ∧ f p.1 = false := by simpa using hfp
    exact h.rest p hp hf2.2
/-- the frame behind it, written out: what it was, the filled slots anew -/
theorem Slots.out (h : Slots a0 ds S W f a w) : a = { tmps := ds.foldl (fun t p => t.setIfInBounds p.2 (a.tmps.getD p.2 undef)) a0.tmps, defers := a0.defers } := by
  obtain ⟨t, df⟩ := a
  have hd : df = a0.defers := h.defers
  subst hd
  congr 1
  have key : ∀ (l : List (Nat × Nat)) (t0 : Array Value), t0.size = t.size → (∀ j, j ∉ l.map (·.2) → t.getD j undef = t0.getD j undef) → t = l.foldl (fun u p => u.setIfInBounds p.2 (t.getD p.2 undef)) t0 := by
    intro l
    induction l with
    | nil =>
      intro t0 hs hj
      apply Array.ext hs.symm
      intro i h1 h2
      have := hj i (by simp)
      simpa [h1, h2] using this
    | cons p l ih =>
      intro t0 hs hj
      rw [List.foldl_cons]
      apply ih
      · simp [hs]
      · intro j hjl
        by_cases e : j = p.2
        · subst e
          by_cases hp : p.2 < t.size
          · simp [hs, hp]
          · simp [Array.getElem?_eq_none (Nat.le_of_not_lt hp), hs]
        · rw [hj j (by simp [e]; simpa using hjl)]
          simp [Array.getElem?_setIfInBounds_ne (fun h => e h.symm)]
  exact key ds a0.tmps h.size.symm h.same

/-! ### an operation's step -/
theorem wp_value {o : Oper} {K : Act → World → Prop} {v : Value} (hrun : (execOp a.eval o).run P w = .ok (.value v) w') (h : K (a.put o.dst v) w') : o.wp P a w K Q := by
  unfold Oper.wp
  rw [hrun]
  exact h
theorem wp_skip {o : Oper} {K : Act → World → Prop} (hrun : (execOp a.eval o).run P w = .ok .skip w') (h : K (a.put o.dst undef) w') : o.wp P a w K Q := by
  unfold Oper.wp
  rw [hrun]
  exact h
theorem run_val {s : Sem Value} {v : Value} (h : s.run P w = .ok v w') : (do pure (Next.value (← s)) : Sem Next).run P w = .ok (.value v) w' := by
  rw [Sem.run_bind, h]
  rfl
/-- a call of a function that the text names -/
theorem wp_go {dst : Option Tmp} {fn : FuncId} {xs : Array Operand} {ats : Array TypeId} {ty : TypeId} {pos : String} {after : Array Edge} {guard : Option (Nat × Bool)} {K : Act → World → Prop} {args : Array Value} {d : Func}
    (hf : P.funcs[fn]? = some d) (hn : (d.name == "runtime.NumGoroutine") = false) (hb : d.body.isNone = false) (ha : xs.map a.eval = args)
    (h : Calls P fn args w fun e w' => ∃ v, e = .returned v ∧ K (a.put dst v) w') : Oper.wp P { dst, op := .call { callee := .value (.func fn), args := xs, argTypes := ats }, type := ty, pos, after, guard } a w K Q := by
  unfold Oper.wp
  rw [execOp_call_go]
  have e : (#[] ++ xs.map a.eval ++ #[] : Array Value) = args := by rw [ha]; simp
  have hr : (callFunc fn args).run P w = .ok (.enter fn args) w := by
    have hn' : ¬ d.name = "runtime.NumGoroutine" := by simpa using hn
    have hb' : ¬ d.body = none := by intro h0; rw [h0] at hb; cases hb
    simp [callFunc, go_sem, hf]
    rw [if_neg hn', if_neg hb']
  rw [e, hr, Oper.upon_enter]
  exact h.mono fun e w' ⟨v, he, hK⟩ => by subst he; exact hK
end
end Go.Proofs.Ytngpfjmifaecjaa
