/- PortsOf: without the document: the set of any numbers has just those of them that are ports; a walk that is broken off begins anew. No condition. -/
import Derived.Test.YtngpfjmifaecjaaRows
import Derived.Test.YtngpfjmifaecjaaLaw07c
namespace Go.Proofs.Ytngpfjmifaecjaa
namespace lawPortsOf
open Go.ChangeShapes Go.WideShapes Go.ChangeAt Go.RowKit
variable {H : Type} {enc : TypeId × Value → H}
set_option maxRecDepth 100000 in
theorem walk (v1 : Value) {W : World} {base : Nat} {d1 : DataW H} {p1 : List MemPlace} (hv1 : Value.okWide Try.prog W .any base 33 v1) (h1 : DataW.Trod enc Try.prog W 0 (fun _ => true) true 33 v1 d1 p1) :
    Calls Try.prog 4 #[v1] W fun e W' => e = .returned (.bool true) ∧ Below W.heap.size W W' := by
  obtain ⟨a1, n1, c1, zs, rfl, hnc, hm1, hw1, hc1⟩ := ints_in2 Try.underlying33 Try.underlying3 (by kernel_rfl) hv1 h1
  exact (portsOf_walk a1 n1 c1 zs W hnc hm1 (getD_all (fun z hz => bounds_i64 (hw1 z hz)) (by omega)) (hc1.imp id fun ⟨_, b, o, e, i⟩ => ⟨b, o, e, i⟩)).mono fun e w' ⟨a, b⟩ => ⟨a, b.below⟩
end lawPortsOf
namespace lawPortsOf
open Go.ChangeShapes Go.WideShapes Go.ChangeAt Go.RowKit
open Go.ChangeMaps (open_string shut_string)
theorem own : ownKnob Try.prog.godebug = none := by kernel_rfl
theorem laidOut : laidOutB Try.prog = true := by kernel_rfl
set_option linter.unusedVariables false
set_option maxRecDepth 100000 in
theorem lifted (os : Os) (started : os.Started) (H : Type) (enc : TypeId × Value → H) :
    ReturnsInHanded {} Try.checked os 4 .any (Rows.portsOfSpec.pre6 enc Try.prog Try.f4 Rows.portsOfRow.domain false) (Rows.portsOfSpec.post enc Try.prog Try.f4 false true false false) := by
  refine returnsInHanded_of_change (C := Try.checked) own started (by kernel_rfl) Try.func4
    (ChangeSpec.witness6 (enc := enc) (C := Try.checked) false ⟨#[], #[.slice none 0 0], []⟩ 12 (by kernel_rfl) (by kernel_rfl) (by kernel_rfl) (by kernel_rfl)) ?_
  intro W base args ds gs before hval0 hW hcnd _
  have hval : ∀ (j : Nat) t v, Try.f4.params[j]? = some t → args[j]? = some v → Value.okWide Try.prog W .any base t v := hval0
  have hW' := hW
  obtain ⟨p, q, hA0, hV, rfl, hfz, hnd⟩ := hW
  have hA : DataW.TrodAll enc Try.prog W 0 (fun _ => true) true Try.f4.params.toList args.toList ds p := hA0
  rw [Try.params4] at hA hval
  obtain ⟨v0, vs0, d0, ds0, p0, q0, hargs, rfl, rfl, h0, r0⟩ := trodAll_cons hA
  obtain ⟨rfl, rfl, rfl⟩ := trodAll_nil r0
  obtain rfl : args = #[v0] := by cases args; simp_all
  obtain ⟨rfl, rfl⟩ := trodVars_none hV
  have k0 := h0
  have lt0 : ∀ x ∈ p0, x.block < W.heap.size := by obtain ⟨m, hm⟩ := k0; exact DataW.trod_lt m _ _ _ hm
  clear hA0 hval0
  refine (lawPortsOf.walk v0 (hval 0 33 v0 rfl rfl) k0).mono fun e W' ⟨he, bel⟩ => ?_
  subst he
  exact ⟨_, rfl, _, _, _, [], _, [], hW', trodAll_mk1 (shut_bool Try.underlying4 _), (trodAll_cons_mk (Below.trod laidOut (by kernel_rfl) (of_decide_eq_true (by kernel_rfl)) k0 bel lt0) trodAll_mk0), rfl, bel.frame _, fun h => by cases h⟩
theorem over : Rows.portsOfRow.holds Try.pinned (OpenSpec.ofChange Rows.portsOfSpec) :=
  OpenClaim.holds_of_wide 4 Try.f4 rfl rfl rfl rfl rfl rfl rfl ⟨rfl, rfl, rfl, rfl, rfl⟩ rfl rfl rfl rfl rfl (by kernel_rfl) Try.func4 (by kernel_rfl)
    (of_decide_eq_true (by kernel_rfl)) (by unfold Func.isWrapper; first | (rw [if_pos (by decide +kernel)]; kernel_rfl) | (rw [if_neg (by decide +kernel)]; exact ⟨rfl, rfl⟩))
    (fun os started H enc _ => lifted os started H enc)
theorem proved : Rows.PortsOfSaid := over
end lawPortsOf
end Go.Proofs.Ytngpfjmifaecjaa
