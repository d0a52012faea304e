/- A region in its written order, by an invariant, its guards too: for frames that are one letter. No condition. -/
import Derived.Test.YtngpfjmifaecjaaRegInvG
import Derived.Test.YtngpfjmifaecjaaRowsS
namespace Go.Proofs.Ytngpfjmifaecjaa
open Go.RowKit
section
variable {P : Program} {ops : Array Oper} {Q : Exit → Act → World → Prop}
theorem upd_lt (i : Nat) : (fun j => decide (j = i) || decide (j < i)) = (fun j => decide (j < i + 1)) := by
  funext j
  rw [Bool.eq_iff_iff]
  simp
  omega
/-- THE LAW: as wp_region_invG, for a region that draws no order -/
theorem wp_region_plainG {id : Nat} {a : Act} {w : World} (hlow : lowEdgesG .any ops = true) (Inv : (Nat → Bool) → Act → World → Prop)
    (h0 : Inv (fun _ => false) a w)
    (hstep : ∀ f a w, Inv f a w → ∀ i o, ops[i]? = some o → f i = false → (∀ e ∈ o.after, Region.binds .any e = true → f e.on = true) →
      (Region.wanted o (yielded ops a.tmps) = true ∧ o.wp P a w (Inv (fun j => decide (j = i) || f j)) Q) ∨ (Region.wanted o (yielded ops a.tmps) = false ∧ Inv (fun j => decide (j = i) || f j) (a.put o.dst undef) w))
    (hend : ∀ f a w, (∀ i, i < ops.size → f i = true) → Inv f a w → Q .normal a w) : (Code.region id ops false).wp P Q a w := by
  refine wp_region_list ?_
  have key : ∀ (l : List Oper) (k : Nat) (a : Act) (w : World), k + l.length = ops.size → (∀ j, l[j]? = ops[k + j]?) → Inv (fun j => decide (j < k)) a w → wpList P ops Q l a w := by
    intro l
    induction l with
    | nil =>
      intro k a w hk _ hI
      exact hend _ a w (fun i hi => by simp at hk ⊢; omega) hI
    | cons o l ih =>
      intro k a w hk hj hI
      have ho : ops[k]? = some o := by simpa using (hj 0).symm
      have hk' : k + 1 + l.length = ops.size := by simp at hk; omega
      have hj' : ∀ j, l[j]? = ops[k + 1 + j]? := fun j => by have := hj (j + 1); simpa [Nat.add_assoc, Nat.add_comm 1 j] using this
      have hs := hstep _ a w hI k o ho (by simp) (fun e he hb => by have := lowEdgesG_spec hlow ho e he hb; simpa using this)
      rw [upd_lt] at hs
      unfold wpList
      rcases hs with ⟨h1, h2⟩ | ⟨h1, h2⟩
      · rw [if_pos h1]
        exact .inl (Oper.wp_mono (fun a' w' h => ih (k + 1) a' w' hk' hj' h) h2)
      · rw [if_neg (by rw [h1]; exact Bool.false_ne_true)]
        exact ih (k + 1) _ w hk' hj' h2
  refine key ops.toList 0 a w (by simp) (by simp) ?_
  have e : (fun j => decide (j < 0)) = (fun _ => false) := by
    funext j
    simp
  rw [e]
  exact h0
end
end Go.Proofs.Ytngpfjmifaecjaa
