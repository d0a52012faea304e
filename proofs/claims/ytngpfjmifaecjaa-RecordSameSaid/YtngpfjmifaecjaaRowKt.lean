/- What an argument that came in looks like: small words for the rows of this seat. No condition. -/
import Derived.Test.YtngpfjmifaecjaaKt
import Derived.ProofKit
import Derived.OpenShut
import Derived.ShutString
import Derived.ChangeOld
import Derived.SizedLaws
import Derived.Handed
namespace Go.Proofs.Ytngpfjmifaecjaa
open Go.ChangeShapes Go.WideShapes Go.ChangeAt Go.RowKit

/-- a slice of integers that came in and has elements: where they lie -/
def IntsAt (k : IntKind) (w : World) (b off len : Nat) (zs : List Int) : Prop := ∀ i, i < len → w.cell? ⟨b, off + i, none⟩ = some (.int k (zs.getD i 0))
theorem IntsAt.kept {k : IntKind} {w w' : World} {b off len : Nat} {zs : List Int} (h : IntsAt k w b off len zs) (hk : Kept noB w w') : IntsAt k w' b off len zs := fun i hi => hk.cell (h i hi) (fun e => e)

set_option maxRecDepth 100000 in
theorem ints_in {H : Type} {enc : TypeId × Value → H} {k : IntKind} {t e : TypeId} (ht : Try.prog.underlying t = some (.slice e)) (he : Try.prog.underlying e = some (.int k)) (hc : Try.prog.cellsOf e = 1)
    {W : World} {base : Nat} {v : Value} {d : DataW H} {p : List MemPlace} (hv : Value.okWide Try.prog W .any base t v) (h : DataW.Trod enc Try.prog W 0 (fun _ => true) true t v d p) :
    ∃ a len cap zs, v = .slice a len cap ∧ len ≤ maxLen ∧ (∀ z ∈ zs, (Lit.int k z).wf = true) ∧ (len = 0 ∨ (len ≤ zs.length ∧ ∃ b off, a = some ⟨b, off, none⟩ ∧ IntsAt k W b off len zs)) := by
  obtain ⟨a, len, cap, rfl⟩ := okWide_slice ht hv
  obtain ⟨fuel, hf⟩ := h
  rcases open_ints ht he hc hf with ⟨hcs, _⟩ | ⟨x, l, c, zs, hcs, _, hl, hm, hz, _, hcell, hwz⟩
  · simp [Value.cells] at hcs
    obtain ⟨rfl, rfl, rfl⟩ := hcs
    exact ⟨none, 0, 0, [], rfl, Nat.zero_le _, by simp, .inl rfl⟩
  · simp [Value.cells] at hcs
    obtain ⟨rfl, rfl, rfl⟩ := hcs
    rw [if_pos rfl] at hz
    refine ⟨_, len, cap, zs, rfl, Nat.le_trans hl hm, hwz, ?_⟩
    by_cases h0 : len = 0
    · exact .inl h0
    · right
      obtain ⟨b, off, spot⟩ := x
      have hc0 := hcell 0 (by omega)
      have hs : spot = none := by simpa [Addr.add] using World.cell?_spot hc0
      subst hs
      exact ⟨by omega, b, off, rfl, fun i hi => by have := hcell i (by omega); rwa [show (⟨b, off, none⟩ : Addr).add i = ⟨b, off + i, none⟩ by unfold Addr.add; split <;> simp_all] at this⟩
set_option maxRecDepth 100000 in
/-- the same, and there is room for them -/
theorem ints_in2 {H : Type} {enc : TypeId × Value → H} {k : IntKind} {t e : TypeId} (ht : Try.prog.underlying t = some (.slice e)) (he : Try.prog.underlying e = some (.int k)) (hc : Try.prog.cellsOf e = 1)
    {W : World} {base : Nat} {v : Value} {d : DataW H} {p : List MemPlace} (hv : Value.okWide Try.prog W .any base t v) (h : DataW.Trod enc Try.prog W 0 (fun _ => true) true t v d p) :
    ∃ a len cap zs, v = .slice a len cap ∧ len ≤ cap ∧ cap ≤ maxLen ∧ (∀ z ∈ zs, (Lit.int k z).wf = true) ∧ (len = 0 ∨ (len ≤ zs.length ∧ ∃ b off, a = some ⟨b, off, none⟩ ∧ IntsAt k W b off len zs)) := by
  obtain ⟨a, len, cap, rfl⟩ := okWide_slice ht hv
  obtain ⟨fuel, hf⟩ := h
  rcases open_ints ht he hc hf with ⟨hcs, _⟩ | ⟨x, l, c, zs, hcs, _, hl, hm, hz, _, hcell, hwz⟩
  · simp [Value.cells] at hcs
    obtain ⟨rfl, rfl, rfl⟩ := hcs
    exact ⟨none, 0, 0, [], rfl, Nat.le_refl _, Nat.zero_le _, by simp, .inl rfl⟩
  · simp [Value.cells] at hcs
    obtain ⟨rfl, rfl, rfl⟩ := hcs
    rw [if_pos rfl] at hz
    refine ⟨_, len, cap, zs, rfl, hl, hm, hwz, ?_⟩
    by_cases h0 : len = 0
    · exact .inl h0
    · right
      obtain ⟨b, off, spot⟩ := x
      have hc0 := hcell 0 (by omega)
      have hs : spot = none := by simpa [Addr.add] using World.cell?_spot hc0
      subst hs
      exact ⟨by omega, b, off, rfl, fun i hi => by have := hcell i (by omega); rwa [show (⟨b, off, none⟩ : Addr).add i = ⟨b, off + i, none⟩ by unfold Addr.add; split <;> simp_all] at this⟩
theorem getD_all {P : Int → Prop} {zs : List Int} (h : ∀ z ∈ zs, P z) (h0 : P 0) (i : Nat) : P (zs.getD i 0) := by
  rw [List.getD_eq_getElem?_getD]
  cases e : zs[i]? with
  | none => exact h0
  | some x => exact h _ (List.mem_of_getElem? e)
end Go.Proofs.Ytngpfjmifaecjaa
