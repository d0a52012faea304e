/-
  No cell of these rows narrows 'for every input' (looked for: loops, veiled, ifaces, maps, wideKeys, modest, calm, conditions, laid).
  DERIVED. THE GIVEN ROWS OF THIS SEAT. 7 by the template 'for every input the law returns true; each argument reads behind the call as it read before'; 0 by the template 'total and deterministic' (their statements: YtclnginkplhlhaaTotals.lean).
  GIVEN WITH THE SEED: the statements are not yours to turn. If you find one false, say at which input.
  Laid BY PROGRAM, IN A SANDBOX (cutbox-rows.mjs): the forced cells as the released guide's own fill.sh prints them over the translation 2a66f6ad23e8ae3c… (all of the seat's roots in one cut). By AI agents, Wed Nov 11 2026. No macro, syntax, notation, axiom, sorry.
-/
import Derived.Test.YtclnginkplhlhaaChecked
import GoSem.Claim
import GoSem.ClaimJoined
import GoSem.ClaimMapViews
import Derived.JoinedTies
import Derived.KernelRfl
namespace Go.Proofs.Ytclnginkplhlhaa
/- THE CELL 'sum', in the pinned program and in every row, IS THE sha256 OF THE DUMP (.gsa) THAT YtclnginkplhlhaaProg.lean LOADS. Nothing in Lean hashes anything: it is a label: what it is worth is what the hold of that sum in a sandbox is worth. -/
noncomputable def Try.pinned : Pinned := { name := "ytclnginkplhlhaa", sum := "2a66f6ad23e8ae3cbefaae347ac062116c4ac5ae8da075ae91c34b0dda67c7fb", checked := Try.checked }
namespace Rows
def none {H : Type} : Left H := { results := [], args := [] }

/-- 'girderlaw11.ClassifyTells': WHATEVER THE INPUT: true; the input reads as it did. -/
def classifyTellsSpec : ChangeSpec := { name := "classifyTells", fn := fun _ => fun
  | [d] => { results := [.lit (.bool true)], args := [d] }
  | _ => none }
def classifyTellsRow : OpenClaim := { program := "ytclnginkplhlhaa", sum := "2a66f6ad23e8ae3cbefaae347ac062116c4ac5ae8da075ae91c34b0dda67c7fb", func := "girder/girderlaw11.ClassifyTells", spec := "classifyTells", apart := false }
def ClassifyTellsSaid : Prop := classifyTellsRow.holds Try.pinned (OpenSpec.ofChange classifyTellsSpec)

/-- ITS FALSE NEIGHBOUR: 'it returns false'. Refute it at one input. -/
def classifyTellsWrong : ChangeSpec := { name := "classifyTells", fn := fun _ => fun
  | [d] => { results := [.lit (.bool false)], args := [d] }
  | _ => none }
def ClassifyTellsWrongFalsely : Prop := classifyTellsRow.holds Try.pinned (OpenSpec.ofChange classifyTellsWrong)

/-- 'girderlaw11.ClassifyOpen': WHATEVER THE INPUT: true; the input reads as it did. -/
def classifyOpenSpec : ChangeSpec := { name := "classifyOpen", fn := fun _ => fun
  | [d1, d2, d3] => { results := [.lit (.bool true)], args := [d1, d2, d3] }
  | _ => none }
def classifyOpenRow : OpenClaim := { program := "ytclnginkplhlhaa", sum := "2a66f6ad23e8ae3cbefaae347ac062116c4ac5ae8da075ae91c34b0dda67c7fb", func := "girder/girderlaw11.ClassifyOpen", spec := "classifyOpen", apart := false }
def ClassifyOpenSaid : Prop := classifyOpenRow.holds Try.pinned (OpenSpec.ofChange classifyOpenSpec)

/-- ITS FALSE NEIGHBOUR: 'it returns false'. Refute it at one input. -/
def classifyOpenWrong : ChangeSpec := { name := "classifyOpen", fn := fun _ => fun
  | [d1, d2, d3] => { results := [.lit (.bool false)], args := [d1, d2, d3] }
  | _ => none }
def ClassifyOpenWrongFalsely : Prop := classifyOpenRow.holds Try.pinned (OpenSpec.ofChange classifyOpenWrong)

/-- 'girderlaw04.FrameCodes': WHATEVER THE INPUT: true; the input reads as it did. -/
def frameCodesSpec : ChangeSpec := { name := "frameCodes", fn := fun _ => fun
  | [d] => { results := [.lit (.bool true)], args := [d] }
  | _ => none }
def frameCodesRow : OpenClaim := { program := "ytclnginkplhlhaa", sum := "2a66f6ad23e8ae3cbefaae347ac062116c4ac5ae8da075ae91c34b0dda67c7fb", func := "girder/girderlaw04.FrameCodes", spec := "frameCodes", apart := false }
def FrameCodesSaid : Prop := frameCodesRow.holds Try.pinned (OpenSpec.ofChange frameCodesSpec)

/-- ITS FALSE NEIGHBOUR: 'it returns false'. Refute it at one input. -/
def frameCodesWrong : ChangeSpec := { name := "frameCodes", fn := fun _ => fun
  | [d] => { results := [.lit (.bool false)], args := [d] }
  | _ => none }
def FrameCodesWrongFalsely : Prop := frameCodesRow.holds Try.pinned (OpenSpec.ofChange frameCodesWrong)

/-- 'girderlaw04.FrameReads': WHATEVER THE INPUT: true; the input reads as it did. -/
def frameReadsSpec : ChangeSpec := { name := "frameReads", fn := fun _ => fun
  | [d] => { results := [.lit (.bool true)], args := [d] }
  | _ => none }
def frameReadsRow : OpenClaim := { program := "ytclnginkplhlhaa", sum := "2a66f6ad23e8ae3cbefaae347ac062116c4ac5ae8da075ae91c34b0dda67c7fb", func := "girder/girderlaw04.FrameReads", spec := "frameReads", apart := false }
def FrameReadsSaid : Prop := frameReadsRow.holds Try.pinned (OpenSpec.ofChange frameReadsSpec)

/-- ITS FALSE NEIGHBOUR: 'it returns false'. Refute it at one input. -/
def frameReadsWrong : ChangeSpec := { name := "frameReads", fn := fun _ => fun
  | [d] => { results := [.lit (.bool false)], args := [d] }
  | _ => none }
def FrameReadsWrongFalsely : Prop := frameReadsRow.holds Try.pinned (OpenSpec.ofChange frameReadsWrong)

/-- 'girderlaw21.TlvBuilds': WHATEVER THE INPUT: true; the input reads as it did. -/
def tlvBuildsSpec : ChangeSpec := { name := "tlvBuilds", fn := fun _ => fun
  | [d1, d2] => { results := [.lit (.bool true)], args := [d1, d2] }
  | _ => none }
def tlvBuildsRow : OpenClaim := { program := "ytclnginkplhlhaa", sum := "2a66f6ad23e8ae3cbefaae347ac062116c4ac5ae8da075ae91c34b0dda67c7fb", func := "girder/girderlaw21.TlvBuilds", spec := "tlvBuilds", apart := false }
def TlvBuildsSaid : Prop := tlvBuildsRow.holds Try.pinned (OpenSpec.ofChange tlvBuildsSpec)

/-- ITS FALSE NEIGHBOUR: 'it returns false'. Refute it at one input. -/
def tlvBuildsWrong : ChangeSpec := { name := "tlvBuilds", fn := fun _ => fun
  | [d1, d2] => { results := [.lit (.bool false)], args := [d1, d2] }
  | _ => none }
def TlvBuildsWrongFalsely : Prop := tlvBuildsRow.holds Try.pinned (OpenSpec.ofChange tlvBuildsWrong)

/-- 'girderlaw21.TlvParses': WHATEVER THE INPUT: true; the input reads as it did. -/
def tlvParsesSpec : ChangeSpec := { name := "tlvParses", fn := fun _ => fun
  | [d1, d2] => { results := [.lit (.bool true)], args := [d1, d2] }
  | _ => none }
def tlvParsesRow : OpenClaim := { program := "ytclnginkplhlhaa", sum := "2a66f6ad23e8ae3cbefaae347ac062116c4ac5ae8da075ae91c34b0dda67c7fb", func := "girder/girderlaw21.TlvParses", spec := "tlvParses", apart := false }
def TlvParsesSaid : Prop := tlvParsesRow.holds Try.pinned (OpenSpec.ofChange tlvParsesSpec)

/-- ITS FALSE NEIGHBOUR: 'it returns false'. Refute it at one input. -/
def tlvParsesWrong : ChangeSpec := { name := "tlvParses", fn := fun _ => fun
  | [d1, d2] => { results := [.lit (.bool false)], args := [d1, d2] }
  | _ => none }
def TlvParsesWrongFalsely : Prop := tlvParsesRow.holds Try.pinned (OpenSpec.ofChange tlvParsesWrong)

/-- 'girderlaw21.TlvRots': WHATEVER THE INPUT: true; the input reads as it did. -/
def tlvRotsSpec : ChangeSpec := { name := "tlvRots", fn := fun _ => fun
  | [d1, d2, d3] => { results := [.lit (.bool true)], args := [d1, d2, d3] }
  | _ => none }
def tlvRotsRow : OpenClaim := { program := "ytclnginkplhlhaa", sum := "2a66f6ad23e8ae3cbefaae347ac062116c4ac5ae8da075ae91c34b0dda67c7fb", func := "girder/girderlaw21.TlvRots", spec := "tlvRots", apart := false }
def TlvRotsSaid : Prop := tlvRotsRow.holds Try.pinned (OpenSpec.ofChange tlvRotsSpec)

/-- ITS FALSE NEIGHBOUR: 'it returns false'. Refute it at one input. -/
def tlvRotsWrong : ChangeSpec := { name := "tlvRots", fn := fun _ => fun
  | [d1, d2, d3] => { results := [.lit (.bool false)], args := [d1, d2, d3] }
  | _ => none }
def TlvRotsWrongFalsely : Prop := tlvRotsRow.holds Try.pinned (OpenSpec.ofChange tlvRotsWrong)

/- THE SECOND FORM. 'bulk': how many values and letters a reading holds, each counted each time it is reached (what is shared counts as often as it is met; a slice's spare places count too). A statement '..UptoSaid' is the law's where the arguments, and the package variables that the reading takes, are together of bulk at most 1048576: NARROWER than '..Said'. Prove '..Said' where nothing that the law and all that it calls make is longer than what came in: it says more and counts as full. Else prove '..UptoSaid'. A law counts once. -/
mutual
def uptoBulk {H : Type} : DataW H → Nat
  | .lit (.string bytes) => bytes.length + 1
  | .lit _ => 1
  | .nil => 1
  | .ptr d => uptoBulk d + 1
  | .slice elems spare => uptoBulkAll elems + uptoBulkAll spare + 1
  | .agg parts => uptoBulkAll parts + 1
  | .iface _ d => uptoBulk d + 1
  | .map entries => uptoBulkEntries entries + 1
  | .held _ => 1
def uptoBulkAll {H : Type} : List (DataW H) → Nat
  | [] => 0
  | d :: r => uptoBulk d + uptoBulkAll r
def uptoBulkEntries {H : Type} : List (Lit × DataW H) → Nat
  | [] => 0
  | x :: r => uptoBulkEntry x + uptoBulkEntries r
def uptoBulkEntry {H : Type} : Lit × DataW H → Nat
  | (.string bytes, d) => bytes.length + uptoBulk d + 1
  | (_, d) => uptoBulk d + 1
 end
def uptoSmall : (H : Type) → List (DataW H) → Bool := fun _ ds => decide (uptoBulkAll ds ≤ 1048576)
def OpenSpec.upto (s : _root_.Go.ChangeSpec) : _root_.Go.OpenSpec := { _root_.Go.OpenSpec.ofChange s with cond := some uptoSmall }

/-- 'girderlaw11.ClassifyTells', WHERE WHAT IT READS IS OF BULK AT MOST 1048576: true; the input reads as it did. -/
def classifyTellsUptoRow : OpenClaim := { program := "ytclnginkplhlhaa", sum := "2a66f6ad23e8ae3cbefaae347ac062116c4ac5ae8da075ae91c34b0dda67c7fb", func := "girder/girderlaw11.ClassifyTells", spec := "classifyTells", apart := false, narrowed := true }
def ClassifyTellsUptoSaid : Prop := classifyTellsUptoRow.holds Try.pinned (OpenSpec.upto classifyTellsSpec)

/-- 'girderlaw11.ClassifyOpen', WHERE WHAT IT READS IS OF BULK AT MOST 1048576: true; the input reads as it did. -/
def classifyOpenUptoRow : OpenClaim := { program := "ytclnginkplhlhaa", sum := "2a66f6ad23e8ae3cbefaae347ac062116c4ac5ae8da075ae91c34b0dda67c7fb", func := "girder/girderlaw11.ClassifyOpen", spec := "classifyOpen", apart := false, narrowed := true }
def ClassifyOpenUptoSaid : Prop := classifyOpenUptoRow.holds Try.pinned (OpenSpec.upto classifyOpenSpec)

/-- 'girderlaw04.FrameCodes', WHERE WHAT IT READS IS OF BULK AT MOST 1048576: true; the input reads as it did. -/
def frameCodesUptoRow : OpenClaim := { program := "ytclnginkplhlhaa", sum := "2a66f6ad23e8ae3cbefaae347ac062116c4ac5ae8da075ae91c34b0dda67c7fb", func := "girder/girderlaw04.FrameCodes", spec := "frameCodes", apart := false, narrowed := true }
def FrameCodesUptoSaid : Prop := frameCodesUptoRow.holds Try.pinned (OpenSpec.upto frameCodesSpec)

/-- 'girderlaw04.FrameReads', WHERE WHAT IT READS IS OF BULK AT MOST 1048576: true; the input reads as it did. -/
def frameReadsUptoRow : OpenClaim := { program := "ytclnginkplhlhaa", sum := "2a66f6ad23e8ae3cbefaae347ac062116c4ac5ae8da075ae91c34b0dda67c7fb", func := "girder/girderlaw04.FrameReads", spec := "frameReads", apart := false, narrowed := true }
def FrameReadsUptoSaid : Prop := frameReadsUptoRow.holds Try.pinned (OpenSpec.upto frameReadsSpec)

/-- 'girderlaw21.TlvBuilds', WHERE WHAT IT READS IS OF BULK AT MOST 1048576: true; the input reads as it did. -/
def tlvBuildsUptoRow : OpenClaim := { program := "ytclnginkplhlhaa", sum := "2a66f6ad23e8ae3cbefaae347ac062116c4ac5ae8da075ae91c34b0dda67c7fb", func := "girder/girderlaw21.TlvBuilds", spec := "tlvBuilds", apart := false, narrowed := true }
def TlvBuildsUptoSaid : Prop := tlvBuildsUptoRow.holds Try.pinned (OpenSpec.upto tlvBuildsSpec)

/-- 'girderlaw21.TlvParses', WHERE WHAT IT READS IS OF BULK AT MOST 1048576: true; the input reads as it did. -/
def tlvParsesUptoRow : OpenClaim := { program := "ytclnginkplhlhaa", sum := "2a66f6ad23e8ae3cbefaae347ac062116c4ac5ae8da075ae91c34b0dda67c7fb", func := "girder/girderlaw21.TlvParses", spec := "tlvParses", apart := false, narrowed := true }
def TlvParsesUptoSaid : Prop := tlvParsesUptoRow.holds Try.pinned (OpenSpec.upto tlvParsesSpec)

/-- 'girderlaw21.TlvRots', WHERE WHAT IT READS IS OF BULK AT MOST 1048576: true; the input reads as it did. -/
def tlvRotsUptoRow : OpenClaim := { program := "ytclnginkplhlhaa", sum := "2a66f6ad23e8ae3cbefaae347ac062116c4ac5ae8da075ae91c34b0dda67c7fb", func := "girder/girderlaw21.TlvRots", spec := "tlvRots", apart := false, narrowed := true }
def TlvRotsUptoSaid : Prop := tlvRotsUptoRow.holds Try.pinned (OpenSpec.upto tlvRotsSpec)

end Rows
end Go.Proofs.Ytclnginkplhlhaa
