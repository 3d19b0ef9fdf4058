/-
  No cell of these rows narrows 'for every input' (looked for: loops, veiled, ifaces, maps, wideKeys, modest, calm, conditions, laid).
  DERIVED. THE GIVEN ROWS OF THIS SEAT. 7 by the template 'for every input the law returns true; each argument reads behind the call as it read before'; 0 by the template 'total and deterministic' (their statements: YtifpejpeophlbaaTotals.lean).
  GIVEN WITH THE SEED: the statements are not yours to turn. If you find one false, say at which input.
  Laid BY PROGRAM, IN A SANDBOX (cutbox-rows.mjs): the forced cells as the released guide's own fill.sh prints them over the translation c76e5eedb21b3017… (all of the seat's roots in one cut). By AI agents, Wed Nov 11 2026. No macro, syntax, notation, axiom, sorry.
-/
import Derived.Test.YtifpejpeophlbaaChecked
import GoSem.Claim
import GoSem.ClaimJoined
import GoSem.ClaimMapViews
import Derived.JoinedTies
import Derived.KernelRfl
namespace Go.Proofs.Ytifpejpeophlbaa
/- THE CELL 'sum', in the pinned program and in every row, IS THE sha256 OF THE DUMP (.gsa) THAT YtifpejpeophlbaaProg.lean LOADS. Nothing in Lean hashes anything: it is a label: what it is worth is what the hold of that sum in a sandbox is worth. -/
noncomputable def Try.pinned : Pinned := { name := "ytifpejpeophlbaa", sum := "c76e5eedb21b30176ae5b9c871e93fa58abca49e42a4c681ae6e6d58141865c6", checked := Try.checked }
namespace Rows
def none {H : Type} : Left H := { results := [], args := [] }

/-- 'quernlaw8.DomReach': WHATEVER THE INPUT: true; the input reads as it did. -/
def domReachSpec : ChangeSpec := { name := "domReach", fn := fun _ => fun
  | [d] => { results := [.lit (.bool true)], args := [d] }
  | _ => none }
def domReachRow : OpenClaim := { program := "ytifpejpeophlbaa", sum := "c76e5eedb21b30176ae5b9c871e93fa58abca49e42a4c681ae6e6d58141865c6", func := "quern/quernlaw8.DomReach", spec := "domReach", apart := false }
def DomReachSaid : Prop := domReachRow.holds Try.pinned (OpenSpec.ofChange domReachSpec)

/-- ITS FALSE NEIGHBOUR: 'it returns false'. Refute it at one input. -/
def domReachWrong : ChangeSpec := { name := "domReach", fn := fun _ => fun
  | [d] => { results := [.lit (.bool false)], args := [d] }
  | _ => none }
def DomReachWrongFalsely : Prop := domReachRow.holds Try.pinned (OpenSpec.ofChange domReachWrong)

/-- 'quernlaw8.DomTree': WHATEVER THE INPUT: true; the input reads as it did. -/
def domTreeSpec : ChangeSpec := { name := "domTree", fn := fun _ => fun
  | [d] => { results := [.lit (.bool true)], args := [d] }
  | _ => none }
def domTreeRow : OpenClaim := { program := "ytifpejpeophlbaa", sum := "c76e5eedb21b30176ae5b9c871e93fa58abca49e42a4c681ae6e6d58141865c6", func := "quern/quernlaw8.DomTree", spec := "domTree", apart := false }
def DomTreeSaid : Prop := domTreeRow.holds Try.pinned (OpenSpec.ofChange domTreeSpec)

/-- ITS FALSE NEIGHBOUR: 'it returns false'. Refute it at one input. -/
def domTreeWrong : ChangeSpec := { name := "domTree", fn := fun _ => fun
  | [d] => { results := [.lit (.bool false)], args := [d] }
  | _ => none }
def DomTreeWrongFalsely : Prop := domTreeRow.holds Try.pinned (OpenSpec.ofChange domTreeWrong)

/-- 'quernlaw8.DomOver': WHATEVER THE INPUT: true; the input reads as it did. -/
def domOverSpec : ChangeSpec := { name := "domOver", fn := fun _ => fun
  | [d1, d2, d3] => { results := [.lit (.bool true)], args := [d1, d2, d3] }
  | _ => none }
def domOverRow : OpenClaim := { program := "ytifpejpeophlbaa", sum := "c76e5eedb21b30176ae5b9c871e93fa58abca49e42a4c681ae6e6d58141865c6", func := "quern/quernlaw8.DomOver", spec := "domOver", apart := false }
def DomOverSaid : Prop := domOverRow.holds Try.pinned (OpenSpec.ofChange domOverSpec)

/-- ITS FALSE NEIGHBOUR: 'it returns false'. Refute it at one input. -/
def domOverWrong : ChangeSpec := { name := "domOver", fn := fun _ => fun
  | [d1, d2, d3] => { results := [.lit (.bool false)], args := [d1, d2, d3] }
  | _ => none }
def DomOverWrongFalsely : Prop := domOverRow.holds Try.pinned (OpenSpec.ofChange domOverWrong)

/-- 'quernlaw8.DomWays': WHATEVER THE INPUT: true; the input reads as it did. -/
def domWaysSpec : ChangeSpec := { name := "domWays", fn := fun _ => fun
  | [d1, d2] => { results := [.lit (.bool true)], args := [d1, d2] }
  | _ => none }
def domWaysRow : OpenClaim := { program := "ytifpejpeophlbaa", sum := "c76e5eedb21b30176ae5b9c871e93fa58abca49e42a4c681ae6e6d58141865c6", func := "quern/quernlaw8.DomWays", spec := "domWays", apart := false }
def DomWaysSaid : Prop := domWaysRow.holds Try.pinned (OpenSpec.ofChange domWaysSpec)

/-- ITS FALSE NEIGHBOUR: 'it returns false'. Refute it at one input. -/
def domWaysWrong : ChangeSpec := { name := "domWays", fn := fun _ => fun
  | [d1, d2] => { results := [.lit (.bool false)], args := [d1, d2] }
  | _ => none }
def DomWaysWrongFalsely : Prop := domWaysRow.holds Try.pinned (OpenSpec.ofChange domWaysWrong)

/-- 'quernlaw8.DomNear': WHATEVER THE INPUT: true; the input reads as it did. -/
def domNearSpec : ChangeSpec := { name := "domNear", fn := fun _ => fun
  | [d] => { results := [.lit (.bool true)], args := [d] }
  | _ => none }
def domNearRow : OpenClaim := { program := "ytifpejpeophlbaa", sum := "c76e5eedb21b30176ae5b9c871e93fa58abca49e42a4c681ae6e6d58141865c6", func := "quern/quernlaw8.DomNear", spec := "domNear", apart := false }
def DomNearSaid : Prop := domNearRow.holds Try.pinned (OpenSpec.ofChange domNearSpec)

/-- ITS FALSE NEIGHBOUR: 'it returns false'. Refute it at one input. -/
def domNearWrong : ChangeSpec := { name := "domNear", fn := fun _ => fun
  | [d] => { results := [.lit (.bool false)], args := [d] }
  | _ => none }
def DomNearWrongFalsely : Prop := domNearRow.holds Try.pinned (OpenSpec.ofChange domNearWrong)

/-- 'quernlaw8.DomChain': WHATEVER THE INPUT: true; the input reads as it did. -/
def domChainSpec : ChangeSpec := { name := "domChain", fn := fun _ => fun
  | [d] => { results := [.lit (.bool true)], args := [d] }
  | _ => none }
def domChainRow : OpenClaim := { program := "ytifpejpeophlbaa", sum := "c76e5eedb21b30176ae5b9c871e93fa58abca49e42a4c681ae6e6d58141865c6", func := "quern/quernlaw8.DomChain", spec := "domChain", apart := false }
def DomChainSaid : Prop := domChainRow.holds Try.pinned (OpenSpec.ofChange domChainSpec)

/-- ITS FALSE NEIGHBOUR: 'it returns false'. Refute it at one input. -/
def domChainWrong : ChangeSpec := { name := "domChain", fn := fun _ => fun
  | [d] => { results := [.lit (.bool false)], args := [d] }
  | _ => none }
def DomChainWrongFalsely : Prop := domChainRow.holds Try.pinned (OpenSpec.ofChange domChainWrong)

/-- 'quernlaw8.DomAll': WHATEVER THE INPUT: true; the input reads as it did. -/
def domAllSpec : ChangeSpec := { name := "domAll", fn := fun _ => fun
  | [d] => { results := [.lit (.bool true)], args := [d] }
  | _ => none }
def domAllRow : OpenClaim := { program := "ytifpejpeophlbaa", sum := "c76e5eedb21b30176ae5b9c871e93fa58abca49e42a4c681ae6e6d58141865c6", func := "quern/quernlaw8.DomAll", spec := "domAll", recurses := true, apart := false }
def DomAllSaid : Prop := domAllRow.holds Try.pinned (OpenSpec.ofChange domAllSpec)

/-- ITS FALSE NEIGHBOUR: 'it returns false'. Refute it at one input. -/
def domAllWrong : ChangeSpec := { name := "domAll", fn := fun _ => fun
  | [d] => { results := [.lit (.bool false)], args := [d] }
  | _ => none }
def DomAllWrongFalsely : Prop := domAllRow.holds Try.pinned (OpenSpec.ofChange domAllWrong)

/- THE SECOND FORM. 'bulk': how many values and letters a reading holds, each counted each time it is reached (what is shared counts as often as it is met; a slice's spare places count too). A statement '..UptoSaid' is the law's where the arguments, and the package variables that the reading takes, are together of bulk at most 1048576: NARROWER than '..Said'. Prove '..Said' where nothing that the law and all that it calls make is longer than what came in: it says more and counts as full. Else prove '..UptoSaid'. A law counts once. -/
mutual
def uptoBulk {H : Type} : DataW H → Nat
  | .lit (.string bytes) => bytes.length + 1
  | .lit _ => 1
  | .nil => 1
  | .ptr d => uptoBulk d + 1
  | .slice elems spare => uptoBulkAll elems + uptoBulkAll spare + 1
  | .agg parts => uptoBulkAll parts + 1
  | .iface _ d => uptoBulk d + 1
  | .map entries => uptoBulkEntries entries + 1
  | .held _ => 1
def uptoBulkAll {H : Type} : List (DataW H) → Nat
  | [] => 0
  | d :: r => uptoBulk d + uptoBulkAll r
def uptoBulkEntries {H : Type} : List (Lit × DataW H) → Nat
  | [] => 0
  | x :: r => uptoBulkEntry x + uptoBulkEntries r
def uptoBulkEntry {H : Type} : Lit × DataW H → Nat
  | (.string bytes, d) => bytes.length + uptoBulk d + 1
  | (_, d) => uptoBulk d + 1
 end
def uptoSmall : (H : Type) → List (DataW H) → Bool := fun _ ds => decide (uptoBulkAll ds ≤ 1048576)
def OpenSpec.upto (s : _root_.Go.ChangeSpec) : _root_.Go.OpenSpec := { _root_.Go.OpenSpec.ofChange s with cond := some uptoSmall }

/-- 'quernlaw8.DomReach', WHERE WHAT IT READS IS OF BULK AT MOST 1048576: true; the input reads as it did. -/
def domReachUptoRow : OpenClaim := { program := "ytifpejpeophlbaa", sum := "c76e5eedb21b30176ae5b9c871e93fa58abca49e42a4c681ae6e6d58141865c6", func := "quern/quernlaw8.DomReach", spec := "domReach", apart := false, narrowed := true }
def DomReachUptoSaid : Prop := domReachUptoRow.holds Try.pinned (OpenSpec.upto domReachSpec)

/-- 'quernlaw8.DomTree', WHERE WHAT IT READS IS OF BULK AT MOST 1048576: true; the input reads as it did. -/
def domTreeUptoRow : OpenClaim := { program := "ytifpejpeophlbaa", sum := "c76e5eedb21b30176ae5b9c871e93fa58abca49e42a4c681ae6e6d58141865c6", func := "quern/quernlaw8.DomTree", spec := "domTree", apart := false, narrowed := true }
def DomTreeUptoSaid : Prop := domTreeUptoRow.holds Try.pinned (OpenSpec.upto domTreeSpec)

/-- 'quernlaw8.DomOver', WHERE WHAT IT READS IS OF BULK AT MOST 1048576: true; the input reads as it did. -/
def domOverUptoRow : OpenClaim := { program := "ytifpejpeophlbaa", sum := "c76e5eedb21b30176ae5b9c871e93fa58abca49e42a4c681ae6e6d58141865c6", func := "quern/quernlaw8.DomOver", spec := "domOver", apart := false, narrowed := true }
def DomOverUptoSaid : Prop := domOverUptoRow.holds Try.pinned (OpenSpec.upto domOverSpec)

/-- 'quernlaw8.DomWays', WHERE WHAT IT READS IS OF BULK AT MOST 1048576: true; the input reads as it did. -/
def domWaysUptoRow : OpenClaim := { program := "ytifpejpeophlbaa", sum := "c76e5eedb21b30176ae5b9c871e93fa58abca49e42a4c681ae6e6d58141865c6", func := "quern/quernlaw8.DomWays", spec := "domWays", apart := false, narrowed := true }
def DomWaysUptoSaid : Prop := domWaysUptoRow.holds Try.pinned (OpenSpec.upto domWaysSpec)

/-- 'quernlaw8.DomNear', WHERE WHAT IT READS IS OF BULK AT MOST 1048576: true; the input reads as it did. -/
def domNearUptoRow : OpenClaim := { program := "ytifpejpeophlbaa", sum := "c76e5eedb21b30176ae5b9c871e93fa58abca49e42a4c681ae6e6d58141865c6", func := "quern/quernlaw8.DomNear", spec := "domNear", apart := false, narrowed := true }
def DomNearUptoSaid : Prop := domNearUptoRow.holds Try.pinned (OpenSpec.upto domNearSpec)

/-- 'quernlaw8.DomChain', WHERE WHAT IT READS IS OF BULK AT MOST 1048576: true; the input reads as it did. -/
def domChainUptoRow : OpenClaim := { program := "ytifpejpeophlbaa", sum := "c76e5eedb21b30176ae5b9c871e93fa58abca49e42a4c681ae6e6d58141865c6", func := "quern/quernlaw8.DomChain", spec := "domChain", apart := false, narrowed := true }
def DomChainUptoSaid : Prop := domChainUptoRow.holds Try.pinned (OpenSpec.upto domChainSpec)

/-- 'quernlaw8.DomAll', WHERE WHAT IT READS IS OF BULK AT MOST 1048576: true; the input reads as it did. -/
def domAllUptoRow : OpenClaim := { program := "ytifpejpeophlbaa", sum := "c76e5eedb21b30176ae5b9c871e93fa58abca49e42a4c681ae6e6d58141865c6", func := "quern/quernlaw8.DomAll", spec := "domAll", recurses := true, apart := false, narrowed := true }
def DomAllUptoSaid : Prop := domAllUptoRow.holds Try.pinned (OpenSpec.upto domAllSpec)

end Rows
end Go.Proofs.Ytifpejpeophlbaa
