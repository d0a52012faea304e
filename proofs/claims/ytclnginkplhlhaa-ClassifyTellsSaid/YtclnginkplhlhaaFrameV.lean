/- A frame as a value. No condition. -/
import Derived.Test.YtclnginkplhlhaaKt
import Derived.Test.YtclnginkplhlhaaPlainFrame
import Derived.Test.YtclnginkplhlhaaPlainWire
namespace Go.Proofs.Ytclnginkplhlhaa
open Go.RowKit

/-- a frame's cells -/
def frC (x : Fr) : List Value := [.int .u8 x.a0.toNat, .int .u8 x.a1.toNat, .int .u8 x.a2.toNat, .int .u8 x.a3.toNat, .int .u8 x.a4.toNat, .int .u8 x.a5.toNat,
  .int .u8 x.b0.toNat, .int .u8 x.b1.toNat, .int .u8 x.b2.toNat, .int .u8 x.b3.toNat, .int .u8 x.b4.toNat, .int .u8 x.b5.toNat, .bool x.tg, .int .u8 x.pcp, .bool x.dei, .int .u16 x.vid, .int .u16 x.ty, .string (bs x.data)]
def frV (x : Fr) : Value := .agg (frC x).toArray
end Go.Proofs.Ytclnginkplhlhaa
