/- Plain words: frames as data, their bytes. No program in sight. Condition: none. -/
import Derived.Test.YtclnginkplhlhaaPlainWire
namespace Go.Proofs.Ytclnginkplhlhaa
/-- a frame as data -/
structure Fr where
  a0 : UInt8
  a1 : UInt8
  a2 : UInt8
  a3 : UInt8
  a4 : UInt8
  a5 : UInt8
  b0 : UInt8
  b1 : UInt8
  b2 : UInt8
  b3 : UInt8
  b4 : UInt8
  b5 : UInt8
  tg : Bool
  pcp : Nat
  dei : Bool
  vid : Nat
  ty : Nat
  data : List UInt8
def Fr.ok (x : Fr) : Prop := x.pcp < 256 ∧ x.vid < 65536 ∧ x.ty < 65536 ∧ x.data.length ≤ 140737488351232
def Fr.zero : Fr := ⟨0, 0, 0, 0, 0, 0, 0, 0, 0, 0, 0, 0, false, 0, false, 0, 0, []⟩
/-- may it be? -/
def Fr.good (x : Fr) : Bool := if x.tg then decide (x.pcp ≤ 7) && decide (x.vid ≤ 4094) else decide (x.pcp = 0) && !x.dei && decide (x.vid = 0) && decide (x.ty ≠ 33024)
def Fr.info (x : Fr) : Nat := 8192 * x.pcp + x.vid + (if x.dei then 4096 else 0)
end Go.Proofs.Ytclnginkplhlhaa
