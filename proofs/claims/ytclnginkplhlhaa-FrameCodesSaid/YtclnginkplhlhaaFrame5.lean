/- The walk of girderref04.Encode. Condition: 'Fr.ok'. -/
import Derived.Test.YtclnginkplhlhaaFrame3
namespace Go.Proofs.Ytclnginkplhlhaa
open Go.RowKit
theorem frParts (x : Fr) : (frC x).take 6 = vb (frA x) ∧ ((frC x).drop 6).take 6 = vb (frB x) := ⟨rfl, rfl⟩
/-- the document's question: has it no bytes? -/
theorem rencode_bad (x : Fr) (w : World) (hx : x.ok) (hg : x.good = false) : Calls Try.prog 20 #[frV x] w fun e w' => e = .returned (.tuple #[.string (bs []), .int .i64 16]) ∧ Kept noB w w' := by
  have c12 : (frC x).toArray[12]? = some (.bool x.tg) := rfl
  have c13 : (frC x).toArray[13]? = some (.int .u8 x.pcp) := rfl
  have c14 : (frC x).toArray[14]? = some (.bool x.dei) := rfl
  have c15 : (frC x).toArray[15]? = some (.int .u16 x.vid) := rfl
  have c16 : (frC x).toArray[16]? = some (.int .u16 x.ty) := rfl
  have hx2 := hx.1
  have hx3 := hx.2.1
  have hx4 := hx.2.2.1
  unfold Fr.good at hg
  unfold frV
  clear hx
  generalize hcs : (frC x).toArray = cs at *
  go_enter Try.func20, Try.ntmps20
  cases ht : x.tg <;> cases hd : x.dei
  all_goals
    rw [ht] at hg c12
    rw [hd] at c14
    simp [hd] at hg
    go_wp2_with fail
    all_goals
      first
      | (go_ret2
         exact ⟨rfl, (Kept.refl _ _).alloc _⟩)
      | (exfalso; omega)
      | trace_state
end Go.Proofs.Ytclnginkplhlhaa
