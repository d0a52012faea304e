/- A region that draws its order, by an invariant, its guards too. No condition. -/
import Derived.Test.YtngpfjmifaecjaaValS
namespace Go.Proofs.Ytngpfjmifaecjaa
open Go.RowKit
section
variable {P : Program} {ops : Array Oper} {Q : Exit → Act → World → Prop} {md : Region.Mode}
/-- no edge leads to a later operation -/
def lowEdgesG (md : Region.Mode) (ops : Array Oper) : Bool := (List.range ops.size).all fun i => match ops[i]? with | some o => o.after.all (fun e => !Region.binds md e || decide (e.on < i)) | none => true
theorem lowEdgesG_spec (h : lowEdgesG md ops = true) {i : Nat} {o : Oper} (ho : ops[i]? = some o) : ∀ e ∈ o.after, Region.binds md e = true → e.on < i := by
  have hi : i < ops.size := (Array.getElem?_eq_some_iff.1 ho).1
  have := List.all_eq_true.1 h i (List.mem_range.2 hi)
  rw [ho] at this
  intro e he hb
  have := Array.all_eq_true'.1 this e he
  simpa [hb] using this
theorem all_listedG (hlow : lowEdgesG md ops = true) {L : Array Bool} (hL : L.size = ops.size) (h : Region.ready md ops L = []) : ∀ i, i < ops.size → L.getD i false = true := by
  intro i
  induction i using Nat.strongRecOn with
  | _ i ih =>
    intro hi
    cases hb : L.getD i false with
    | true => rfl
    | false =>
      exfalso
      have hm : i ∈ Region.ready md ops L := mem_ready.2 ⟨by
        have hi' : i < L.size := by omega
        simp [hi'] at hb ⊢
        exact hb, ops[i], Array.getElem?_eq_getElem hi, fun e he hbd => ih e.on (lowEdgesG_spec hlow (Array.getElem?_eq_getElem hi) e he hbd) (by have := lowEdgesG_spec hlow (Array.getElem?_eq_getElem hi) e he hbd; omega)⟩
      rw [h] at hm
      cases hm
theorem wpAny_invG (hlow : lowEdgesG md ops = true) {Inv : (Nat → Bool) → Act → World → Prop}
    (hstep : ∀ f a w, Inv f a w → ∀ i o, ops[i]? = some o → f i = false → (∀ e ∈ o.after, Region.binds md e = true → f e.on = true) →
      (Region.wanted o (yielded ops a.tmps) = true ∧ o.wp P a w (Inv (fun j => decide (j = i) || f j)) Q) ∨ (Region.wanted o (yielded ops a.tmps) = false ∧ Inv (fun j => decide (j = i) || f j) (a.put o.dst undef) w))
    (hend : ∀ f a w, (∀ i, i < ops.size → f i = true) → Inv f a w → Q .normal a w) :
    ∀ (fuel : Nat) (L : Array Bool) (a : Act) (w : World), L.size = ops.size → L.toList.countP (fun b => !b) ≤ fuel → Inv (fun j => L.getD j false) a w → wpAny P md ops Q fuel L a w := by
  intro fuel
  induction fuel with
  | zero =>
    intro L a w hL hc hI
    have hr : Region.ready md ops L = [] := by
      apply List.eq_nil_iff_forall_not_mem.2
      intro i hi
      obtain ⟨h1, _⟩ := mem_ready.1 hi
      obtain ⟨h2, h3⟩ := unlisted_lt h1
      have h0 : L.toList.countP (fun b => !b) = 0 := by omega
      rw [List.countP_eq_zero] at h0
      have := h0 (L[i]) (Array.getElem_mem_toList h2)
      simp [h2] at h3
      simp [h3] at this
    exact ⟨hr, hend _ a w (all_listedG hlow hL hr) hI⟩
  | succ fuel ih =>
    intro L a w hL hc hI
    refine ⟨fun hr => hend _ a w (all_listedG hlow hL hr) hI, fun i hi => ?_⟩
    obtain ⟨h1, o, ho, hall⟩ := mem_ready.1 hi
    obtain ⟨h2, h3⟩ := unlisted_lt h1
    have hs := hstep _ a w hI i o ho h3 hall
    have hgo : ∀ a' w', Inv (fun j => decide (j = i) || L.getD j false) a' w' → wpAny P md ops Q fuel (L.setIfInBounds i true) a' w' := fun a' w' h => ih _ a' w' (by simp [hL]) (by
      have hset : (L.setIfInBounds i true).toList = L.toList.set i true := by simp
      rw [hset, List.countP_set (by simpa using h2)]
      have hLi : L.toList[i]'(by simpa using h2) = false := by
        simp [h2] at h3
        simpa using h3
      have hpos : 0 < L.toList.countP (fun b => !b) := List.countP_pos_iff.2 ⟨_, List.getElem_mem (by simpa using h2), by rw [hLi]; rfl⟩
      rw [hLi]
      simp only [Bool.not_false, Bool.not_true, Bool.false_eq_true, if_false, if_true]
      omega) (by rw [getD_set_eq L i h2]; exact h)
    unfold wpOp
    rw [ho]
    simp only
    rcases hs with ⟨hg, hs⟩ | ⟨hg, hs⟩
    · rw [if_pos hg]
      exact .inl (Oper.wp_mono hgo hs)
    · rw [if_neg (by rw [hg]; exact Bool.false_ne_true)]
      exact hgo _ _ hs
/-- THE LAW -/
theorem wp_region_invG {id : Nat} {a : Act} {w : World} (hm : P.follows .mixedOrders = true) (hlow : lowEdgesG .any ops = true) (Inv : (Nat → Bool) → Act → World → Prop)
    (h0 : Inv (fun _ => false) a w.drew)
    (hstep : ∀ f a w, Inv f a w → ∀ i o, ops[i]? = some o → f i = false → (∀ e ∈ o.after, Region.binds .any e = true → f e.on = true) →
      (Region.wanted o (yielded ops a.tmps) = true ∧ o.wp P a w (Inv (fun j => decide (j = i) || f j)) Q) ∨ (Region.wanted o (yielded ops a.tmps) = false ∧ Inv (fun j => decide (j = i) || f j) (a.put o.dst undef) w))
    (hend : ∀ f a w, (∀ i, i < ops.size → f i = true) → Inv f a w → Q .normal a w) : (Code.region id ops true).wp P Q a w := by
  refine wp_region_any hm (wpAny_invG hlow hstep hend ops.size _ a _ (by simp) ?_ ?_)
  · refine Nat.le_trans List.countP_le_length (by simp)
  · have e : (fun j => (Array.replicate ops.size false).getD j false) = (fun _ => false) := by
      funext j
      by_cases hj : j < ops.size <;> simp [hj]
    rw [e]
    exact h0
theorem wanted_free {o : Oper} {a : Act} (hg : o.guard = none) : Region.wanted o (yielded ops a.tmps) = true := by simp [Region.wanted, hg]
theorem yielded_at {a : Act} {j d : Nat} {b : Bool} (hj : (ops[j]?).bind (·.dst) = some d) (he : a.eval (.tmp d) = .bool b) : yielded ops a.tmps j = some b := by
  unfold yielded
  rw [hj]
  have he' : a.tmps.getD d undef = .bool b := he
  rw [Array.getD_eq_getD_getElem?] at he'
  simp only [Option.bind_some]
  cases hd : a.tmps[d]? with
  | none => rw [hd] at he'; simp [undef] at he'
  | some u => rw [hd] at he'; simp at he'; rw [he']
theorem wanted_yes {o : Oper} {a : Act} {j d : Nat} {b : Bool} (hg : o.guard = some (j, b)) (hj : (ops[j]?).bind (·.dst) = some d) (he : a.eval (.tmp d) = .bool b) : Region.wanted o (yielded ops a.tmps) = true := by
  simp [Region.wanted, hg, yielded_at hj he]
theorem wanted_no {o : Oper} {a : Act} {j d : Nat} {b c : Bool} (hg : o.guard = some (j, b)) (hj : (ops[j]?).bind (·.dst) = some d) (he : a.eval (.tmp d) = .bool c) (hne : c ≠ b) : Region.wanted o (yielded ops a.tmps) = false := by
  simp [Region.wanted, hg, yielded_at hj he]
  cases b <;> cases c <;> simp_all
end
end Go.Proofs.Ytngpfjmifaecjaa
