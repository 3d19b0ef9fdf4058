/-
  No cell of these rows narrows 'for every input' (looked for: loops, veiled, ifaces, maps, wideKeys, modest, calm, conditions, laid).
  DERIVED. THE GIVEN ROWS OF THIS SEAT. 6 by the template 'for every input the law returns true; each argument reads behind the call as it read before'; 0 by the template 'total and deterministic' (their statements: YtengcfamhoppbaaTotals.lean).
  GIVEN WITH THE SEED: the statements are not yours to turn. If you find one false, say at which input.
  Laid BY PROGRAM, IN A SANDBOX (cutbox-rows.mjs): the forced cells as the released guide's own fill.sh prints them over the translation 018f25eb632ef6f4… (all of the seat's roots in one cut). By AI agents, Wed Nov 11 2026. No macro, syntax, notation, axiom, sorry.
-/
import Derived.Test.YtengcfamhoppbaaChecked
import GoSem.Claim
import GoSem.ClaimJoined
import GoSem.ClaimMapViews
import Derived.JoinedTies
import Derived.KernelRfl
namespace Go.Proofs.Ytengcfamhoppbaa
/- THE CELL 'sum', in the pinned program and in every row, IS THE sha256 OF THE DUMP (.gsa) THAT YtengcfamhoppbaaProg.lean LOADS. Nothing in Lean hashes anything: it is a label: what it is worth is what the hold of that sum in a sandbox is worth. -/
noncomputable def Try.pinned : Pinned := { name := "ytengcfamhoppbaa", sum := "018f25eb632ef6f41b10502c681623743755f7361e120b6ea2942b36c7fc689f", checked := Try.checked }
namespace Rows
def none {H : Type} : Left H := { results := [], args := [] }

/-- 'quernlaw18.ScanExact': WHATEVER THE INPUT: true; the input reads as it did. -/
def scanExactSpec : ChangeSpec := { name := "scanExact", fn := fun _ => fun
  | [d1, d2] => { results := [.lit (.bool true)], args := [d1, d2] }
  | _ => none }
def scanExactRow : OpenClaim := { program := "ytengcfamhoppbaa", sum := "018f25eb632ef6f41b10502c681623743755f7361e120b6ea2942b36c7fc689f", func := "quern/quernlaw18.ScanExact", spec := "scanExact", unfollowed := true, recurses := true, apart := false }
def ScanExactSaid : Prop := scanExactRow.holds Try.pinned (OpenSpec.ofChange scanExactSpec)

/-- ITS FALSE NEIGHBOUR: 'it returns false'. Refute it at one input. -/
def scanExactWrong : ChangeSpec := { name := "scanExact", fn := fun _ => fun
  | [d1, d2] => { results := [.lit (.bool false)], args := [d1, d2] }
  | _ => none }
def ScanExactWrongFalsely : Prop := scanExactRow.holds Try.pinned (OpenSpec.ofChange scanExactWrong)

/-- 'quernlaw18.ScanPlaces': WHATEVER THE INPUT: true; the input reads as it did. -/
def scanPlacesSpec : ChangeSpec := { name := "scanPlaces", fn := fun _ => fun
  | [d1, d2] => { results := [.lit (.bool true)], args := [d1, d2] }
  | _ => none }
def scanPlacesRow : OpenClaim := { program := "ytengcfamhoppbaa", sum := "018f25eb632ef6f41b10502c681623743755f7361e120b6ea2942b36c7fc689f", func := "quern/quernlaw18.ScanPlaces", spec := "scanPlaces", unfollowed := true, recurses := true, apart := false }
def ScanPlacesSaid : Prop := scanPlacesRow.holds Try.pinned (OpenSpec.ofChange scanPlacesSpec)

/-- ITS FALSE NEIGHBOUR: 'it returns false'. Refute it at one input. -/
def scanPlacesWrong : ChangeSpec := { name := "scanPlaces", fn := fun _ => fun
  | [d1, d2] => { results := [.lit (.bool false)], args := [d1, d2] }
  | _ => none }
def ScanPlacesWrongFalsely : Prop := scanPlacesRow.holds Try.pinned (OpenSpec.ofChange scanPlacesWrong)

/-- 'quernlaw18.ScanApart': WHATEVER THE INPUT: true; the input reads as it did. -/
def scanApartSpec : ChangeSpec := { name := "scanApart", fn := fun _ => fun
  | [d1, d2] => { results := [.lit (.bool true)], args := [d1, d2] }
  | _ => none }
def scanApartRow : OpenClaim := { program := "ytengcfamhoppbaa", sum := "018f25eb632ef6f41b10502c681623743755f7361e120b6ea2942b36c7fc689f", func := "quern/quernlaw18.ScanApart", spec := "scanApart", unfollowed := true, recurses := true, apart := false }
def ScanApartSaid : Prop := scanApartRow.holds Try.pinned (OpenSpec.ofChange scanApartSpec)

/-- ITS FALSE NEIGHBOUR: 'it returns false'. Refute it at one input. -/
def scanApartWrong : ChangeSpec := { name := "scanApart", fn := fun _ => fun
  | [d1, d2] => { results := [.lit (.bool false)], args := [d1, d2] }
  | _ => none }
def ScanApartWrongFalsely : Prop := scanApartRow.holds Try.pinned (OpenSpec.ofChange scanApartWrong)

/-- 'quernlaw18.ScanFew': WHATEVER THE INPUT: true; the input reads as it did. -/
def scanFewSpec : ChangeSpec := { name := "scanFew", fn := fun _ => fun
  | [d1, d2] => { results := [.lit (.bool true)], args := [d1, d2] }
  | _ => none }
def scanFewRow : OpenClaim := { program := "ytengcfamhoppbaa", sum := "018f25eb632ef6f41b10502c681623743755f7361e120b6ea2942b36c7fc689f", func := "quern/quernlaw18.ScanFew", spec := "scanFew", unfollowed := true, recurses := true, apart := false }
def ScanFewSaid : Prop := scanFewRow.holds Try.pinned (OpenSpec.ofChange scanFewSpec)

/-- ITS FALSE NEIGHBOUR: 'it returns false'. Refute it at one input. -/
def scanFewWrong : ChangeSpec := { name := "scanFew", fn := fun _ => fun
  | [d1, d2] => { results := [.lit (.bool false)], args := [d1, d2] }
  | _ => none }
def ScanFewWrongFalsely : Prop := scanFewRow.holds Try.pinned (OpenSpec.ofChange scanFewWrong)

/-- 'quernlaw18.ScanOn': WHATEVER THE INPUT: true; the input reads as it did. -/
def scanOnSpec : ChangeSpec := { name := "scanOn", fn := fun _ => fun
  | [d1, d2] => { results := [.lit (.bool true)], args := [d1, d2] }
  | _ => none }
def scanOnRow : OpenClaim := { program := "ytengcfamhoppbaa", sum := "018f25eb632ef6f41b10502c681623743755f7361e120b6ea2942b36c7fc689f", func := "quern/quernlaw18.ScanOn", spec := "scanOn", unfollowed := true, recurses := true, apart := false }
def ScanOnSaid : Prop := scanOnRow.holds Try.pinned (OpenSpec.ofChange scanOnSpec)

/-- ITS FALSE NEIGHBOUR: 'it returns false'. Refute it at one input. -/
def scanOnWrong : ChangeSpec := { name := "scanOn", fn := fun _ => fun
  | [d1, d2] => { results := [.lit (.bool false)], args := [d1, d2] }
  | _ => none }
def ScanOnWrongFalsely : Prop := scanOnRow.holds Try.pinned (OpenSpec.ofChange scanOnWrong)

/-- 'quernlaw18.ScanAll': WHATEVER THE INPUT: true; the input reads as it did. -/
def scanAllSpec : ChangeSpec := { name := "scanAll", fn := fun _ => fun
  | [d] => { results := [.lit (.bool true)], args := [d] }
  | _ => none }
def scanAllRow : OpenClaim := { program := "ytengcfamhoppbaa", sum := "018f25eb632ef6f41b10502c681623743755f7361e120b6ea2942b36c7fc689f", func := "quern/quernlaw18.ScanAll", spec := "scanAll", unfollowed := true, recurses := true, apart := false }
def ScanAllSaid : Prop := scanAllRow.holds Try.pinned (OpenSpec.ofChange scanAllSpec)

/-- ITS FALSE NEIGHBOUR: 'it returns false'. Refute it at one input. -/
def scanAllWrong : ChangeSpec := { name := "scanAll", fn := fun _ => fun
  | [d] => { results := [.lit (.bool false)], args := [d] }
  | _ => none }
def ScanAllWrongFalsely : Prop := scanAllRow.holds Try.pinned (OpenSpec.ofChange scanAllWrong)

/- THE SECOND FORM. 'bulk': how many values and letters a reading holds, each counted each time it is reached (what is shared counts as often as it is met; a slice's spare places count too). A statement '..UptoSaid' is the law's where the arguments, and the package variables that the reading takes, are together of bulk at most 1048576: NARROWER than '..Said'. Prove '..Said' where nothing that the law and all that it calls make is longer than what came in: it says more and counts as full. Else prove '..UptoSaid'. A law counts once. -/
mutual
def uptoBulk {H : Type} : DataW H → Nat
  | .lit (.string bytes) => bytes.length + 1
  | .lit _ => 1
  | .nil => 1
  | .ptr d => uptoBulk d + 1
  | .slice elems spare => uptoBulkAll elems + uptoBulkAll spare + 1
  | .agg parts => uptoBulkAll parts + 1
  | .iface _ d => uptoBulk d + 1
  | .map entries => uptoBulkEntries entries + 1
  | .held _ => 1
def uptoBulkAll {H : Type} : List (DataW H) → Nat
  | [] => 0
  | d :: r => uptoBulk d + uptoBulkAll r
def uptoBulkEntries {H : Type} : List (Lit × DataW H) → Nat
  | [] => 0
  | x :: r => uptoBulkEntry x + uptoBulkEntries r
def uptoBulkEntry {H : Type} : Lit × DataW H → Nat
  | (.string bytes, d) => bytes.length + uptoBulk d + 1
  | (_, d) => uptoBulk d + 1
 end
def uptoSmall : (H : Type) → List (DataW H) → Bool := fun _ ds => decide (uptoBulkAll ds ≤ 1048576)
def OpenSpec.upto (s : _root_.Go.ChangeSpec) : _root_.Go.OpenSpec := { _root_.Go.OpenSpec.ofChange s with cond := some uptoSmall }

/-- 'quernlaw18.ScanExact', WHERE WHAT IT READS IS OF BULK AT MOST 1048576: true; the input reads as it did. -/
def scanExactUptoRow : OpenClaim := { program := "ytengcfamhoppbaa", sum := "018f25eb632ef6f41b10502c681623743755f7361e120b6ea2942b36c7fc689f", func := "quern/quernlaw18.ScanExact", spec := "scanExact", unfollowed := true, recurses := true, apart := false, narrowed := true }
def ScanExactUptoSaid : Prop := scanExactUptoRow.holds Try.pinned (OpenSpec.upto scanExactSpec)

/-- 'quernlaw18.ScanPlaces', WHERE WHAT IT READS IS OF BULK AT MOST 1048576: true; the input reads as it did. -/
def scanPlacesUptoRow : OpenClaim := { program := "ytengcfamhoppbaa", sum := "018f25eb632ef6f41b10502c681623743755f7361e120b6ea2942b36c7fc689f", func := "quern/quernlaw18.ScanPlaces", spec := "scanPlaces", unfollowed := true, recurses := true, apart := false, narrowed := true }
def ScanPlacesUptoSaid : Prop := scanPlacesUptoRow.holds Try.pinned (OpenSpec.upto scanPlacesSpec)

/-- 'quernlaw18.ScanApart', WHERE WHAT IT READS IS OF BULK AT MOST 1048576: true; the input reads as it did. -/
def scanApartUptoRow : OpenClaim := { program := "ytengcfamhoppbaa", sum := "018f25eb632ef6f41b10502c681623743755f7361e120b6ea2942b36c7fc689f", func := "quern/quernlaw18.ScanApart", spec := "scanApart", unfollowed := true, recurses := true, apart := false, narrowed := true }
def ScanApartUptoSaid : Prop := scanApartUptoRow.holds Try.pinned (OpenSpec.upto scanApartSpec)

/-- 'quernlaw18.ScanFew', WHERE WHAT IT READS IS OF BULK AT MOST 1048576: true; the input reads as it did. -/
def scanFewUptoRow : OpenClaim := { program := "ytengcfamhoppbaa", sum := "018f25eb632ef6f41b10502c681623743755f7361e120b6ea2942b36c7fc689f", func := "quern/quernlaw18.ScanFew", spec := "scanFew", unfollowed := true, recurses := true, apart := false, narrowed := true }
def ScanFewUptoSaid : Prop := scanFewUptoRow.holds Try.pinned (OpenSpec.upto scanFewSpec)

/-- 'quernlaw18.ScanOn', WHERE WHAT IT READS IS OF BULK AT MOST 1048576: true; the input reads as it did. -/
def scanOnUptoRow : OpenClaim := { program := "ytengcfamhoppbaa", sum := "018f25eb632ef6f41b10502c681623743755f7361e120b6ea2942b36c7fc689f", func := "quern/quernlaw18.ScanOn", spec := "scanOn", unfollowed := true, recurses := true, apart := false, narrowed := true }
def ScanOnUptoSaid : Prop := scanOnUptoRow.holds Try.pinned (OpenSpec.upto scanOnSpec)

/-- 'quernlaw18.ScanAll', WHERE WHAT IT READS IS OF BULK AT MOST 1048576: true; the input reads as it did. -/
def scanAllUptoRow : OpenClaim := { program := "ytengcfamhoppbaa", sum := "018f25eb632ef6f41b10502c681623743755f7361e120b6ea2942b36c7fc689f", func := "quern/quernlaw18.ScanAll", spec := "scanAll", unfollowed := true, recurses := true, apart := false, narrowed := true }
def ScanAllUptoSaid : Prop := scanAllUptoRow.holds Try.pinned (OpenSpec.upto scanAllSpec)

end Rows
end Go.Proofs.Ytengcfamhoppbaa
