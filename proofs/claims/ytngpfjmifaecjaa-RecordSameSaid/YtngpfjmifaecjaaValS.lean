/- A drawn region by RegInv: slots of which each holds one value (or what a law says). No condition. -/
import Derived.Test.YtngpfjmifaecjaaRegInv
namespace Go.Proofs.Ytngpfjmifaecjaa
open Go.RowKit
def valS (val : Nat → Option Value) (ex : Nat → World → Value → Prop) (i : Nat) (_ : Nat → Bool) (w : World) (v : Value) : Prop := match val i with | some u => v = u | none => ex i w v
section
variable {val : Nat → Option Value} {ex : Nat → World → Value → Prop} {W : (Nat → Bool) → World → Prop} {a0 a : Act} {ds : List (Nat × Nat)} {f : Nat → Bool} {w w' : World}
theorem valS_kept (hex : ∀ i w w' v, Kept noB w w' → ex i w v → ex i w' v) {f f' : Nat → Bool} (hk : Kept noB w w') (i : Nat) (v : Value) (h : valS val ex i f w v) : valS val ex i f' w' v := by
  unfold valS at h ⊢
  cases hv : val i with
  | some u => rw [hv] at h; exact h
  | none => rw [hv] at h; exact hex i _ _ v hk h
theorem VS.put (hI : Slots a0 ds (valS val ex) W f a w) {i d : Nat} {v : Value} (hok : slotsOk a0.tmps.size ds = true) (hd : (i, d) ∈ ds) (hS : ∀ f, valS val ex i f w' v) (hW : W (fun j => decide (j = i) || f j) w') (hk : Kept noB w w')
    (hex : ∀ i w w' v, Kept noB w w' → ex i w v → ex i w' v) : Slots a0 ds (valS val ex) W (fun j => decide (j = i) || f j) (a.put (some d) v) w' :=
  hI.put hok hd hW (hS _) (fun _ _ _ _ h => valS_kept hex hk _ _ h)
theorem VS.step (hI : Slots a0 ds (valS val ex) W f a w) {i d : Nat} {v : Value} (hok : slotsOk a0.tmps.size ds = true) (hd : (i, d) ∈ ds) (hv : val i = some v) (hW : W (fun j => decide (j = i) || f j) w') (hk : Kept noB w w')
    (hex : ∀ i w w' v, Kept noB w w' → ex i w v → ex i w' v) : Slots a0 ds (valS val ex) W (fun j => decide (j = i) || f j) (a.put (some d) v) w' :=
  VS.put hI hok hd (fun _ => by unfold valS; rw [hv]) hW hk hex
end
end Go.Proofs.Ytngpfjmifaecjaa
