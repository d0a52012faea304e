/- A slice of bytes of the call's own: '[]byte(s)', 'string(b)'. No condition. -/
import Derived.Test.YtngpfjmifaecjaaKt
import Derived.Test.YtngpfjmifaecjaaPlainWire
namespace Go.Proofs.Ytngpfjmifaecjaa
open Go.RowKit

/-- a slice of bytes of the call's own -/
def ByB (w : World) (g : Nat) (l : List UInt8) : Prop := Pre w g 5 (vb l)
theorem ByB.cell {w : World} {g : Nat} {l : List UInt8} (h : ByB w g l) (o : Nat) (ho : o < l.length) : w.cell? ⟨g, o, none⟩ = some (.int .u8 ((l.getD o 0).toNat : Int)) := by
  rw [Pre.cell h o (by rw [vb_length]; exact ho), vb_get l o ho]
  simp [ho]
theorem ByB.frozen {w : World} {g : Nat} {l : List UInt8} (h : ByB w g l) (o : Nat) (ho : o < l.length) : w.frozen? ⟨g, o, none⟩ = false := Pre.frozen h o (by rw [vb_length]; exact ho)
theorem ByB.set {w : World} {g : Nat} {l : List UInt8} (h : ByB w g l) (o : Nat) (ho : o < l.length) (b : UInt8) : ByB (w.setCell ⟨g, o, none⟩ (.int .u8 ((b.toNat : Nat) : Int))) g (l.set o b) := by
  have := Pre.set h o (by rw [vb_length]; exact ho) (.int .u8 ((b.toNat : Nat) : Int))
  rwa [vb_set] at this
/-- '[]byte(s)' -/
theorem run_bytes_of (l : List UInt8) (w : World) : ∃ c w', (convert 9 45 (.string (bs l))).run Try.prog w = .ok (.slice (some ⟨w.heap.size, 0, none⟩) (bs l).size c) w' ∧ ByB w' w.heap.size l ∧ Kept noB w w' := by
  refine ⟨_, _, Go.Lib.run_convert_string_bytes w 9 45 5 (bs l) Try.underlying9 Try.underlying45 Try.underlying5, ?_, ?_⟩
  · refine ⟨List.replicate (grownCap w (bs l).size 0 5 - (bs l).size) (.int .u8 0), ((Go.Lib.bytesCells w 5 (bs l)).size, (Go.Lib.bytesCells w 5 (bs l)).size + 1), ?_, ?_⟩
    · rw [Go.Lib.bytesWorld_at_new]
      congr 2
      simp [Go.Lib.bytesCells, vb, bs]
    · simp [Go.Lib.bytesCells, vb, bs]
  · refine ⟨?_, ?_, ?_, by rw [Go.Lib.bytesWorld_size]; omega, fun k hk _ => Go.Lib.bytesWorld_at_old w _ _ k hk⟩
    all_goals
      unfold Go.Lib.bytesWorld World.freeze
      split <;> rfl
/-- 'string(b)' -/
theorem ByB.str {w : World} {g : Nat} {l : List UInt8} (h : ByB w g l) (n c : Nat) (hn : n = l.length) : (convert 45 9 (.slice (some ⟨g, 0, none⟩) n c)).run Try.prog w = .ok (.string (bs l)) w := by
  subst hn
  have := run_convert_bytes_arg (P := Try.prog) w 45 5 Try.underlying45 Try.underlying5 g 0 l.length c (l.map fun b => (b.toNat : Int)) (by simp) (fun i hi => by
    rw [Nat.zero_add, h.cell i hi]
    simp [hi]) 9 Try.underlying9
  rw [this, strOf_vb]
end Go.Proofs.Ytngpfjmifaecjaa
