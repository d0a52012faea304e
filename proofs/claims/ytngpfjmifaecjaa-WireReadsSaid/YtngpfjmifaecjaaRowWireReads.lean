/- WireReads: a reader of any bytes, by any steps: each answer, what is left, how it ends; none. No condition. -/
import Derived.Test.YtngpfjmifaecjaaRows
import Derived.Test.YtngpfjmifaecjaaLaw01r
namespace Go.Proofs.Ytngpfjmifaecjaa
namespace lawWireReads
open Go.ChangeShapes Go.WideShapes Go.ChangeAt Go.RowKit
variable {H : Type} {enc : TypeId × Value → H}
set_option maxRecDepth 100000 in
theorem walk (s : ByteArray) (hs : s.data.toList.length ≤ reachBytes) (v1 : Value) {W : World} {base : Nat} {d1 : DataW H} {p1 : List MemPlace} (hv1 : Value.okWide Try.prog W .any base 33 v1) (h1 : DataW.Trod enc Try.prog W 0 (fun _ => true) true 33 v1 d1 p1) :
    Calls Try.prog 9 #[.string s, v1] W fun e W' => e = .returned (.bool true) ∧ Below W.heap.size W W' := by
  obtain ⟨a1, n1, c1, zs, rfl, hm1, hw1, hc1⟩ := ints_in Try.underlying33 Try.underlying3 (by kernel_rfl) hv1 h1
  have fin : ∀ e w', e = Ending.returned (.bool true) ∧ Kept noB W w' → e = .returned (.bool true) ∧ Below W.heap.size W w' := fun e w' ⟨a, b⟩ => ⟨a, b.below⟩
  have hr : (s.data.toList.length : Int) ≤ 140737488351232 := by unfold reachBytes at hs; omega
  exact (wireReads_walk s.data.toList a1 n1 c1 zs W hm1 hr (getD_all (fun z hz => bounds_i64 (hw1 z hz)) (by omega)) (hc1.imp id fun ⟨_, b, o, e, i⟩ => ⟨b, o, e, i⟩)).mono fin
end lawWireReads
namespace lawWireReads
open Go.ChangeShapes Go.WideShapes Go.ChangeAt Go.RowKit
open Go.ChangeMaps (open_string shut_string)
theorem own : ownKnob Try.prog.godebug = none := by kernel_rfl
theorem laidOut : laidOutB Try.prog = true := by kernel_rfl
set_option linter.unusedVariables false
set_option maxRecDepth 100000 in
theorem lifted (os : Os) (started : os.Started) (H : Type) (enc : TypeId × Value → H) :
    ReturnsInHanded {} Try.checked os 9 .any (Rows.wireReadsSpec.pre6 enc Try.prog Try.f9 Rows.wireReadsRow.domain false) (Rows.wireReadsSpec.post enc Try.prog Try.f9 false true false false) := by
  refine returnsInHanded_of_change_sized (C := Try.checked) own started (by kernel_rfl) Try.func9
    (ChangeSpec.witness6 (enc := enc) (C := Try.checked) false ⟨#[], #[.string ⟨#[]⟩, .slice none 0 0], []⟩ 12 (by kernel_rfl) (by kernel_rfl) (by kernel_rfl) (by kernel_rfl)) ?_
  intro W base args ds gs before hval0 hW hcnd hsz0 _
  have hsz : (DataW.weightsEach Try.prog (Try.f9.params.toList ++ Rows.wireReadsSpec.plain.varTypes Try.prog) (ds ++ gs)).all (· ≤ reachBytes) = true := hsz0
  clear hsz0
  have hval : ∀ (j : Nat) t v, Try.f9.params[j]? = some t → args[j]? = some v → Value.okWide Try.prog W .any base t v := hval0
  have hW' := hW
  obtain ⟨p, q, hA0, hV, rfl, hfz, hnd⟩ := hW
  have hA : DataW.TrodAll enc Try.prog W 0 (fun _ => true) true Try.f9.params.toList args.toList ds p := hA0
  rw [Try.params9] at hA hval hsz
  obtain ⟨v0, vs0, d0, ds0, p0, q0, hargs, rfl, rfl, h0, r0⟩ := trodAll_cons hA
  obtain ⟨v1, vs1, d1, ds1, p1, q1, rfl, rfl, rfl, h1, r1⟩ := trodAll_cons r0
  obtain ⟨rfl, rfl, rfl⟩ := trodAll_nil r1
  obtain rfl : args = #[v0, v1] := by cases args; simp_all
  obtain ⟨rfl, rfl⟩ := trodVars_none hV
  have k0 := h0
  have lt0 : ∀ x ∈ p0, x.block < W.heap.size := by obtain ⟨m, hm⟩ := k0; exact DataW.trod_lt m _ _ _ hm
  obtain ⟨a0, rfl, rfl, rfl, w0⟩ := open_string Try.underlying9 (hval 0 9 v0 rfl rfl) h0
  have z0 : a0.data.toList.length ≤ reachBytes := sized_string hsz (j := 0) (t := 9) rfl rfl
  have k1 := h1
  have lt1 : ∀ x ∈ p1, x.block < W.heap.size := by obtain ⟨m, hm⟩ := k1; exact DataW.trod_lt m _ _ _ hm
  clear hA0 hval0
  refine (lawWireReads.walk a0 z0 v1 (hval 1 33 v1 rfl rfl) k1).mono fun e W' ⟨he, bel⟩ => ?_
  subst he
  exact ⟨_, rfl, _, _, _, [], _, [], hW', trodAll_mk1 (shut_bool Try.underlying4 _), (trodAll_cons_mk (Below.trod laidOut (by kernel_rfl) (of_decide_eq_true (by kernel_rfl)) k0 bel lt0) (trodAll_cons_mk (Below.trod laidOut (by kernel_rfl) (of_decide_eq_true (by kernel_rfl)) k1 bel lt1) trodAll_mk0)), rfl, bel.frame _, fun h => by cases h⟩
theorem over : Rows.wireReadsRow.holds Try.pinned (OpenSpec.ofChange Rows.wireReadsSpec) :=
  OpenClaim.holds_of_wide 9 Try.f9 rfl rfl rfl rfl rfl rfl rfl ⟨rfl, rfl, rfl, rfl, rfl⟩ rfl rfl rfl rfl rfl (by kernel_rfl) Try.func9 (by kernel_rfl)
    (of_decide_eq_true (by kernel_rfl)) (by unfold Func.isWrapper; first | (rw [if_pos (by decide +kernel)]; kernel_rfl) | (rw [if_neg (by decide +kernel)]; exact ⟨rfl, rfl⟩))
    (fun os started H enc _ => lifted os started H enc)
theorem proved : Rows.WireReadsSaid := over
end lawWireReads
end Go.Proofs.Ytngpfjmifaecjaa
