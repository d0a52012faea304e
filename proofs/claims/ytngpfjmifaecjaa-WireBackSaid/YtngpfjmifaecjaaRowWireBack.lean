/- WireBack: what is written is read again, whichever sizes. No condition. -/
import Derived.Test.YtngpfjmifaecjaaRows
import Derived.Test.YtngpfjmifaecjaaLaw01b
namespace Go.Proofs.Ytngpfjmifaecjaa
namespace lawWireBack
open Go.ChangeShapes Go.WideShapes Go.ChangeAt Go.RowKit
variable {H : Type} {enc : TypeId × Value → H}
set_option maxRecDepth 100000 in
theorem walk (v0 : Value) {W : World} {base : Nat} {d0 : DataW H} {p0 : List MemPlace} (hv0 : Value.okWide Try.prog W .any base 95 v0) (h0 : DataW.Trod enc Try.prog W 0 (fun _ => true) true 95 v0 d0 p0)
    (v1 : Value) {d1 : DataW H} {p1 : List MemPlace} (hv1 : Value.okWide Try.prog W .any base 45 v1) (h1 : DataW.Trod enc Try.prog W 0 (fun _ => true) true 45 v1 d1 p1) :
    Calls Try.prog 10 #[v0, v1] W fun e W' => e = .returned (.bool true) ∧ Below W.heap.size W W' := by
  obtain ⟨a0, n0, c0, ls, rfl, hm0, hw0, hc0⟩ := ints_in Try.underlying95 Try.underlying46 (by kernel_rfl) hv0 h0
  obtain ⟨a1, n1, c1, zs, rfl, hm1, hw1, hc1⟩ := ints_in Try.underlying45 Try.underlying5 (by kernel_rfl) hv1 h1
  have fin : ∀ e w', e = Ending.returned (.bool true) ∧ Kept noB W w' → e = .returned (.bool true) ∧ Below W.heap.size W w' := fun e w' ⟨a, b⟩ => ⟨a, b.below⟩
  rcases hc0 with hc0 | ⟨_, b0, o0, rfl, i0⟩
  · exact (wireBack_none a0 a1 n0 c0 n1 c1 W (.inl hc0) hm0 hm1).mono fin
  rcases hc1 with hc1 | ⟨_, b1, o1, rfl, i1⟩
  · exact (wireBack_none _ a1 n0 c0 n1 c1 W (.inr hc1) hm0 hm1).mono fin
  · exact (wireBack_some b0 o0 b1 o1 n0 c0 n1 c1 ls zs W hm0 hm1 i0 i1 (getD_all (fun z hz => bounds_u64 (hw0 z hz)) (by omega)) (getD_all (fun z hz => bounds_u8 (hw1 z hz)) (by omega))).mono fin
end lawWireBack
namespace lawWireBack
open Go.ChangeShapes Go.WideShapes Go.ChangeAt Go.RowKit
open Go.ChangeMaps (open_string shut_string)
theorem own : ownKnob Try.prog.godebug = none := by kernel_rfl
theorem laidOut : laidOutB Try.prog = true := by kernel_rfl
set_option linter.unusedVariables false
set_option maxRecDepth 100000 in
theorem lifted (os : Os) (started : os.Started) (H : Type) (enc : TypeId × Value → H) :
    ReturnsInHanded {} Try.checked os 10 .any (Rows.wireBackSpec.pre6 enc Try.prog Try.f10 Rows.wireBackRow.domain false) (Rows.wireBackSpec.post enc Try.prog Try.f10 false true false false) := by
  refine returnsInHanded_of_change (C := Try.checked) own started (by kernel_rfl) Try.func10
    (ChangeSpec.witness6 (enc := enc) (C := Try.checked) false ⟨#[], #[.slice none 0 0, .slice none 0 0], []⟩ 12 (by kernel_rfl) (by kernel_rfl) (by kernel_rfl) (by kernel_rfl)) ?_
  intro W base args ds gs before hval0 hW hcnd _
  have hval : ∀ (j : Nat) t v, Try.f10.params[j]? = some t → args[j]? = some v → Value.okWide Try.prog W .any base t v := hval0
  have hW' := hW
  obtain ⟨p, q, hA0, hV, rfl, hfz, hnd⟩ := hW
  have hA : DataW.TrodAll enc Try.prog W 0 (fun _ => true) true Try.f10.params.toList args.toList ds p := hA0
  rw [Try.params10] at hA hval
  obtain ⟨v0, vs0, d0, ds0, p0, q0, hargs, rfl, rfl, h0, r0⟩ := trodAll_cons hA
  obtain ⟨v1, vs1, d1, ds1, p1, q1, rfl, rfl, rfl, h1, r1⟩ := trodAll_cons r0
  obtain ⟨rfl, rfl, rfl⟩ := trodAll_nil r1
  obtain rfl : args = #[v0, v1] := by cases args; simp_all
  obtain ⟨rfl, rfl⟩ := trodVars_none hV
  have k0 := h0
  have lt0 : ∀ x ∈ p0, x.block < W.heap.size := by obtain ⟨m, hm⟩ := k0; exact DataW.trod_lt m _ _ _ hm
  have k1 := h1
  have lt1 : ∀ x ∈ p1, x.block < W.heap.size := by obtain ⟨m, hm⟩ := k1; exact DataW.trod_lt m _ _ _ hm
  clear hA0 hval0
  refine (lawWireBack.walk v0 (hval 0 95 v0 rfl rfl) k0 v1 (hval 1 45 v1 rfl rfl) k1).mono fun e W' ⟨he, bel⟩ => ?_
  subst he
  exact ⟨_, rfl, _, _, _, [], _, [], hW', trodAll_mk1 (shut_bool Try.underlying4 _), (trodAll_cons_mk (Below.trod laidOut (by kernel_rfl) (of_decide_eq_true (by kernel_rfl)) k0 bel lt0) (trodAll_cons_mk (Below.trod laidOut (by kernel_rfl) (of_decide_eq_true (by kernel_rfl)) k1 bel lt1) trodAll_mk0)), rfl, bel.frame _, fun h => by cases h⟩
theorem over : Rows.wireBackRow.holds Try.pinned (OpenSpec.ofChange Rows.wireBackSpec) :=
  OpenClaim.holds_of_wide 10 Try.f10 rfl rfl rfl rfl rfl rfl rfl ⟨rfl, rfl, rfl, rfl, rfl⟩ rfl rfl rfl rfl rfl (by kernel_rfl) Try.func10 (by kernel_rfl)
    (of_decide_eq_true (by kernel_rfl)) (by unfold Func.isWrapper; first | (rw [if_pos (by decide +kernel)]; kernel_rfl) | (rw [if_neg (by decide +kernel)]; exact ⟨rfl, rfl⟩))
    (fun os started H enc _ => lifted os started H enc)
theorem proved : Rows.WireBackSaid := over
end lawWireBack
end Go.Proofs.Ytngpfjmifaecjaa
