/-
  No cell of these rows narrows 'for every input' (looked for: loops, veiled, ifaces, maps, wideKeys, modest, calm, conditions, laid).
  DERIVED. THE GIVEN ROWS OF THIS SEAT. 9 by the template 'for every input the law returns true; each argument reads behind the call as it read before'; 0 by the template 'total and deterministic' (their statements: YtngpfjmifaecjaaTotals.lean).
  GIVEN WITH THE SEED: the statements are not yours to turn. If you find one false, say at which input.
  Laid BY PROGRAM, IN A SANDBOX (cutbox-rows.mjs): the forced cells as the released guide's own fill.sh prints them over the translation 091a23b2be086c10… (all of the seat's roots in one cut). By AI agents, Wed Nov 11 2026. No macro, syntax, notation, axiom, sorry.
-/
import Derived.Test.YtngpfjmifaecjaaChecked
import GoSem.Claim
import GoSem.ClaimJoined
import GoSem.ClaimMapViews
import Derived.JoinedTies
import Derived.KernelRfl
namespace Go.Proofs.Ytngpfjmifaecjaa
/- THE CELL 'sum', in the pinned program and in every row, IS THE sha256 OF THE DUMP (.gsa) THAT YtngpfjmifaecjaaProg.lean LOADS. Nothing in Lean hashes anything: it is a label: what it is worth is what the hold of that sum in a sandbox is worth. -/
noncomputable def Try.pinned : Pinned := { name := "ytngpfjmifaecjaa", sum := "091a23b2be086c1057e2476040e6b06c3678cd9b71f035ef792f800abc13ca36", checked := Try.checked }
namespace Rows
def none {H : Type} : Left H := { results := [], args := [] }

/-- 'girderlaw07.PortsHold': WHATEVER THE INPUT: true; the input reads as it did. -/
def portsHoldSpec : ChangeSpec := { name := "portsHold", fn := fun _ => fun
  | [d1, d2, d3] => { results := [.lit (.bool true)], args := [d1, d2, d3] }
  | _ => none }
def portsHoldRow : OpenClaim := { program := "ytngpfjmifaecjaa", sum := "091a23b2be086c1057e2476040e6b06c3678cd9b71f035ef792f800abc13ca36", func := "girder/girderlaw07.PortsHold", spec := "portsHold", unfollowed := true, recurses := true, apart := false }
def PortsHoldSaid : Prop := portsHoldRow.holds Try.pinned (OpenSpec.ofChange portsHoldSpec)

/-- ITS FALSE NEIGHBOUR: 'it returns false'. Refute it at one input. -/
def portsHoldWrong : ChangeSpec := { name := "portsHold", fn := fun _ => fun
  | [d1, d2, d3] => { results := [.lit (.bool false)], args := [d1, d2, d3] }
  | _ => none }
def PortsHoldWrongFalsely : Prop := portsHoldRow.holds Try.pinned (OpenSpec.ofChange portsHoldWrong)

/-- 'girderlaw07.PortsOf': WHATEVER THE INPUT: true; the input reads as it did. -/
def portsOfSpec : ChangeSpec := { name := "portsOf", fn := fun _ => fun
  | [d] => { results := [.lit (.bool true)], args := [d] }
  | _ => none }
def portsOfRow : OpenClaim := { program := "ytngpfjmifaecjaa", sum := "091a23b2be086c1057e2476040e6b06c3678cd9b71f035ef792f800abc13ca36", func := "girder/girderlaw07.PortsOf", spec := "portsOf", unfollowed := true, recurses := true, apart := false }
def PortsOfSaid : Prop := portsOfRow.holds Try.pinned (OpenSpec.ofChange portsOfSpec)

/-- ITS FALSE NEIGHBOUR: 'it returns false'. Refute it at one input. -/
def portsOfWrong : ChangeSpec := { name := "portsOf", fn := fun _ => fun
  | [d] => { results := [.lit (.bool false)], args := [d] }
  | _ => none }
def PortsOfWrongFalsely : Prop := portsOfRow.holds Try.pinned (OpenSpec.ofChange portsOfWrong)

/-- 'girderlaw02.CrcSums': WHATEVER THE INPUT: true; the input reads as it did. -/
def crcSumsSpec : ChangeSpec := { name := "crcSums", fn := fun _ => fun
  | [d1, d2, d3] => { results := [.lit (.bool true)], args := [d1, d2, d3] }
  | _ => none }
def crcSumsRow : OpenClaim := { program := "ytngpfjmifaecjaa", sum := "091a23b2be086c1057e2476040e6b06c3678cd9b71f035ef792f800abc13ca36", func := "girder/girderlaw02.CrcSums", spec := "crcSums", apart := false }
def CrcSumsSaid : Prop := crcSumsRow.holds Try.pinned (OpenSpec.ofChange crcSumsSpec)

/-- ITS FALSE NEIGHBOUR: 'it returns false'. Refute it at one input. -/
def crcSumsWrong : ChangeSpec := { name := "crcSums", fn := fun _ => fun
  | [d1, d2, d3] => { results := [.lit (.bool false)], args := [d1, d2, d3] }
  | _ => none }
def CrcSumsWrongFalsely : Prop := crcSumsRow.holds Try.pinned (OpenSpec.ofChange crcSumsWrong)

/-- 'girderlaw02.CrcBursts': WHATEVER THE INPUT: true; the input reads as it did. -/
def crcBurstsSpec : ChangeSpec := { name := "crcBursts", fn := fun _ => fun
  | [d1, d2, d3] => { results := [.lit (.bool true)], args := [d1, d2, d3] }
  | _ => none }
def crcBurstsRow : OpenClaim := { program := "ytngpfjmifaecjaa", sum := "091a23b2be086c1057e2476040e6b06c3678cd9b71f035ef792f800abc13ca36", func := "girder/girderlaw02.CrcBursts", spec := "crcBursts", apart := false }
def CrcBurstsSaid : Prop := crcBurstsRow.holds Try.pinned (OpenSpec.ofChange crcBurstsSpec)

/-- ITS FALSE NEIGHBOUR: 'it returns false'. Refute it at one input. -/
def crcBurstsWrong : ChangeSpec := { name := "crcBursts", fn := fun _ => fun
  | [d1, d2, d3] => { results := [.lit (.bool false)], args := [d1, d2, d3] }
  | _ => none }
def CrcBurstsWrongFalsely : Prop := crcBurstsRow.holds Try.pinned (OpenSpec.ofChange crcBurstsWrong)

/-- 'girderlaw14.RecordCold': WHATEVER THE INPUT: true; the input reads as it did. -/
def recordColdSpec : ChangeSpec := { name := "recordCold", fn := fun _ => fun
  | [d1, d2] => { results := [.lit (.bool true)], args := [d1, d2] }
  | _ => none }
def recordColdRow : OpenClaim := { program := "ytngpfjmifaecjaa", sum := "091a23b2be086c1057e2476040e6b06c3678cd9b71f035ef792f800abc13ca36", func := "girder/girderlaw14.RecordCold", spec := "recordCold", apart := false }
def RecordColdSaid : Prop := recordColdRow.holds Try.pinned (OpenSpec.ofChange recordColdSpec)

/-- ITS FALSE NEIGHBOUR: 'it returns false'. Refute it at one input. -/
def recordColdWrong : ChangeSpec := { name := "recordCold", fn := fun _ => fun
  | [d1, d2] => { results := [.lit (.bool false)], args := [d1, d2] }
  | _ => none }
def RecordColdWrongFalsely : Prop := recordColdRow.holds Try.pinned (OpenSpec.ofChange recordColdWrong)

/-- 'girderlaw14.RecordSame': WHATEVER THE INPUT: true; the input reads as it did. -/
def recordSameSpec : ChangeSpec := { name := "recordSame", fn := fun _ => fun
  | [d1, d2, d3] => { results := [.lit (.bool true)], args := [d1, d2, d3] }
  | _ => none }
def recordSameRow : OpenClaim := { program := "ytngpfjmifaecjaa", sum := "091a23b2be086c1057e2476040e6b06c3678cd9b71f035ef792f800abc13ca36", func := "girder/girderlaw14.RecordSame", spec := "recordSame", apart := false }
def RecordSameSaid : Prop := recordSameRow.holds Try.pinned (OpenSpec.ofChange recordSameSpec)

/-- ITS FALSE NEIGHBOUR: 'it returns false'. Refute it at one input. -/
def recordSameWrong : ChangeSpec := { name := "recordSame", fn := fun _ => fun
  | [d1, d2, d3] => { results := [.lit (.bool false)], args := [d1, d2, d3] }
  | _ => none }
def RecordSameWrongFalsely : Prop := recordSameRow.holds Try.pinned (OpenSpec.ofChange recordSameWrong)

/-- 'girderlaw01.WireReads': WHATEVER THE INPUT: true; the input reads as it did. -/
def wireReadsSpec : ChangeSpec := { name := "wireReads", fn := fun _ => fun
  | [d1, d2] => { results := [.lit (.bool true)], args := [d1, d2] }
  | _ => none }
def wireReadsRow : OpenClaim := { program := "ytngpfjmifaecjaa", sum := "091a23b2be086c1057e2476040e6b06c3678cd9b71f035ef792f800abc13ca36", func := "girder/girderlaw01.WireReads", spec := "wireReads", apart := false }
def WireReadsSaid : Prop := wireReadsRow.holds Try.pinned (OpenSpec.ofChange wireReadsSpec)

/-- ITS FALSE NEIGHBOUR: 'it returns false'. Refute it at one input. -/
def wireReadsWrong : ChangeSpec := { name := "wireReads", fn := fun _ => fun
  | [d1, d2] => { results := [.lit (.bool false)], args := [d1, d2] }
  | _ => none }
def WireReadsWrongFalsely : Prop := wireReadsRow.holds Try.pinned (OpenSpec.ofChange wireReadsWrong)

/-- 'girderlaw01.WireBack': WHATEVER THE INPUT: true; the input reads as it did. -/
def wireBackSpec : ChangeSpec := { name := "wireBack", fn := fun _ => fun
  | [d1, d2] => { results := [.lit (.bool true)], args := [d1, d2] }
  | _ => none }
def wireBackRow : OpenClaim := { program := "ytngpfjmifaecjaa", sum := "091a23b2be086c1057e2476040e6b06c3678cd9b71f035ef792f800abc13ca36", func := "girder/girderlaw01.WireBack", spec := "wireBack", apart := false }
def WireBackSaid : Prop := wireBackRow.holds Try.pinned (OpenSpec.ofChange wireBackSpec)

/-- ITS FALSE NEIGHBOUR: 'it returns false'. Refute it at one input. -/
def wireBackWrong : ChangeSpec := { name := "wireBack", fn := fun _ => fun
  | [d1, d2] => { results := [.lit (.bool false)], args := [d1, d2] }
  | _ => none }
def WireBackWrongFalsely : Prop := wireBackRow.holds Try.pinned (OpenSpec.ofChange wireBackWrong)

/-- 'girderlaw01.WireNumbers': WHATEVER THE INPUT: true; the input reads as it did. -/
def wireNumbersSpec : ChangeSpec := { name := "wireNumbers", fn := fun _ => fun
  | [d1, d2, d3] => { results := [.lit (.bool true)], args := [d1, d2, d3] }
  | _ => none }
def wireNumbersRow : OpenClaim := { program := "ytngpfjmifaecjaa", sum := "091a23b2be086c1057e2476040e6b06c3678cd9b71f035ef792f800abc13ca36", func := "girder/girderlaw01.WireNumbers", spec := "wireNumbers", apart := false }
def WireNumbersSaid : Prop := wireNumbersRow.holds Try.pinned (OpenSpec.ofChange wireNumbersSpec)

/-- ITS FALSE NEIGHBOUR: 'it returns false'. Refute it at one input. -/
def wireNumbersWrong : ChangeSpec := { name := "wireNumbers", fn := fun _ => fun
  | [d1, d2, d3] => { results := [.lit (.bool false)], args := [d1, d2, d3] }
  | _ => none }
def WireNumbersWrongFalsely : Prop := wireNumbersRow.holds Try.pinned (OpenSpec.ofChange wireNumbersWrong)

/- THE SECOND FORM. 'bulk': how many values and letters a reading holds, each counted each time it is reached (what is shared counts as often as it is met; a slice's spare places count too). A statement '..UptoSaid' is the law's where the arguments, and the package variables that the reading takes, are together of bulk at most 1048576: NARROWER than '..Said'. Prove '..Said' where nothing that the law and all that it calls make is longer than what came in: it says more and counts as full. Else prove '..UptoSaid'. A law counts once. -/
mutual
def uptoBulk {H : Type} : DataW H → Nat
  | .lit (.string bytes) => bytes.length + 1
  | .lit _ => 1
  | .nil => 1
  | .ptr d => uptoBulk d + 1
  | .slice elems spare => uptoBulkAll elems + uptoBulkAll spare + 1
  | .agg parts => uptoBulkAll parts + 1
  | .iface _ d => uptoBulk d + 1
  | .map entries => uptoBulkEntries entries + 1
  | .held _ => 1
def uptoBulkAll {H : Type} : List (DataW H) → Nat
  | [] => 0
  | d :: r => uptoBulk d + uptoBulkAll r
def uptoBulkEntries {H : Type} : List (Lit × DataW H) → Nat
  | [] => 0
  | x :: r => uptoBulkEntry x + uptoBulkEntries r
def uptoBulkEntry {H : Type} : Lit × DataW H → Nat
  | (.string bytes, d) => bytes.length + uptoBulk d + 1
  | (_, d) => uptoBulk d + 1
 end
def uptoSmall : (H : Type) → List (DataW H) → Bool := fun _ ds => decide (uptoBulkAll ds ≤ 1048576)
def OpenSpec.upto (s : _root_.Go.ChangeSpec) : _root_.Go.OpenSpec := { _root_.Go.OpenSpec.ofChange s with cond := some uptoSmall }

/-- 'girderlaw07.PortsHold', WHERE WHAT IT READS IS OF BULK AT MOST 1048576: true; the input reads as it did. -/
def portsHoldUptoRow : OpenClaim := { program := "ytngpfjmifaecjaa", sum := "091a23b2be086c1057e2476040e6b06c3678cd9b71f035ef792f800abc13ca36", func := "girder/girderlaw07.PortsHold", spec := "portsHold", unfollowed := true, recurses := true, apart := false, narrowed := true }
def PortsHoldUptoSaid : Prop := portsHoldUptoRow.holds Try.pinned (OpenSpec.upto portsHoldSpec)

/-- 'girderlaw07.PortsOf', WHERE WHAT IT READS IS OF BULK AT MOST 1048576: true; the input reads as it did. -/
def portsOfUptoRow : OpenClaim := { program := "ytngpfjmifaecjaa", sum := "091a23b2be086c1057e2476040e6b06c3678cd9b71f035ef792f800abc13ca36", func := "girder/girderlaw07.PortsOf", spec := "portsOf", unfollowed := true, recurses := true, apart := false, narrowed := true }
def PortsOfUptoSaid : Prop := portsOfUptoRow.holds Try.pinned (OpenSpec.upto portsOfSpec)

/-- 'girderlaw02.CrcSums', WHERE WHAT IT READS IS OF BULK AT MOST 1048576: true; the input reads as it did. -/
def crcSumsUptoRow : OpenClaim := { program := "ytngpfjmifaecjaa", sum := "091a23b2be086c1057e2476040e6b06c3678cd9b71f035ef792f800abc13ca36", func := "girder/girderlaw02.CrcSums", spec := "crcSums", apart := false, narrowed := true }
def CrcSumsUptoSaid : Prop := crcSumsUptoRow.holds Try.pinned (OpenSpec.upto crcSumsSpec)

/-- 'girderlaw02.CrcBursts', WHERE WHAT IT READS IS OF BULK AT MOST 1048576: true; the input reads as it did. -/
def crcBurstsUptoRow : OpenClaim := { program := "ytngpfjmifaecjaa", sum := "091a23b2be086c1057e2476040e6b06c3678cd9b71f035ef792f800abc13ca36", func := "girder/girderlaw02.CrcBursts", spec := "crcBursts", apart := false, narrowed := true }
def CrcBurstsUptoSaid : Prop := crcBurstsUptoRow.holds Try.pinned (OpenSpec.upto crcBurstsSpec)

/-- 'girderlaw14.RecordCold', WHERE WHAT IT READS IS OF BULK AT MOST 1048576: true; the input reads as it did. -/
def recordColdUptoRow : OpenClaim := { program := "ytngpfjmifaecjaa", sum := "091a23b2be086c1057e2476040e6b06c3678cd9b71f035ef792f800abc13ca36", func := "girder/girderlaw14.RecordCold", spec := "recordCold", apart := false, narrowed := true }
def RecordColdUptoSaid : Prop := recordColdUptoRow.holds Try.pinned (OpenSpec.upto recordColdSpec)

/-- 'girderlaw14.RecordSame', WHERE WHAT IT READS IS OF BULK AT MOST 1048576: true; the input reads as it did. -/
def recordSameUptoRow : OpenClaim := { program := "ytngpfjmifaecjaa", sum := "091a23b2be086c1057e2476040e6b06c3678cd9b71f035ef792f800abc13ca36", func := "girder/girderlaw14.RecordSame", spec := "recordSame", apart := false, narrowed := true }
def RecordSameUptoSaid : Prop := recordSameUptoRow.holds Try.pinned (OpenSpec.upto recordSameSpec)

/-- 'girderlaw01.WireReads', WHERE WHAT IT READS IS OF BULK AT MOST 1048576: true; the input reads as it did. -/
def wireReadsUptoRow : OpenClaim := { program := "ytngpfjmifaecjaa", sum := "091a23b2be086c1057e2476040e6b06c3678cd9b71f035ef792f800abc13ca36", func := "girder/girderlaw01.WireReads", spec := "wireReads", apart := false, narrowed := true }
def WireReadsUptoSaid : Prop := wireReadsUptoRow.holds Try.pinned (OpenSpec.upto wireReadsSpec)

/-- 'girderlaw01.WireBack', WHERE WHAT IT READS IS OF BULK AT MOST 1048576: true; the input reads as it did. -/
def wireBackUptoRow : OpenClaim := { program := "ytngpfjmifaecjaa", sum := "091a23b2be086c1057e2476040e6b06c3678cd9b71f035ef792f800abc13ca36", func := "girder/girderlaw01.WireBack", spec := "wireBack", apart := false, narrowed := true }
def WireBackUptoSaid : Prop := wireBackUptoRow.holds Try.pinned (OpenSpec.upto wireBackSpec)

/-- 'girderlaw01.WireNumbers', WHERE WHAT IT READS IS OF BULK AT MOST 1048576: true; the input reads as it did. -/
def wireNumbersUptoRow : OpenClaim := { program := "ytngpfjmifaecjaa", sum := "091a23b2be086c1057e2476040e6b06c3678cd9b71f035ef792f800abc13ca36", func := "girder/girderlaw01.WireNumbers", spec := "wireNumbers", apart := false, narrowed := true }
def WireNumbersUptoSaid : Prop := wireNumbersUptoRow.holds Try.pinned (OpenSpec.upto wireNumbersSpec)

end Rows
end Go.Proofs.Ytngpfjmifaecjaa
