/-
  DERIVED. GIVEN WITH THE SEED: THE CARDS: each row of YtjjfehdlmdhhmaaDoorRows.lean that lists a variable, with what it lists TIED to the program's text (the seventh form; the later family's looks); each row that meets fmt, with fmt's text TOLD by the authors' own Lean function (tested against real Go, not proved from fmt's source: count such statements apart). THE CARD IS WHAT COUNTS. Prove the row's statement (the work); the ties are given (YtjjfehdlmdhhmaaDoorTie.lean); close each card by the builder's one call (the guide's Derived/Test/ToyasCard.lean, 'card_holds'). Laid BY PROGRAM, IN A SANDBOX (cutbox-door.mjs). By AI agents, Wed Nov 11 2026. No macro, syntax, notation, axiom, sorry.
-/
import Derived.Test.YtjjfehdlmdhhmaaDoorRows
import GoSem.ClaimSeven
namespace Go.Proofs.YtjjfehdlmdhhmaaDoor
namespace Rows

/-- THE TIED CARD OF 'quernlaw17.LiveLive'. -/
def liveLiveCard : Claim7 := { stood := { row := liveLiveRow, standIns := [], harness := (true, "c7be01503316ed520f09f14eb2ae4235ad681ed4d01440bbe09814cc587fdb2c"), looks := false }, kinds := [], alts := [], laidByText := true, laidKinds := [.data], laidTests := true, laidLooks := .later }
def LiveLiveCardSaid : Prop := Claim7.holds Tryd.pinned (.plain (OpenSpec.ofChange liveLiveSpec)) liveLiveCard

/-- THE TIED CARD OF 'quernlaw17.LiveIntervals'. -/
def liveIntervalsCard : Claim7 := { stood := { row := liveIntervalsRow, standIns := [], harness := (true, "c7be01503316ed520f09f14eb2ae4235ad681ed4d01440bbe09814cc587fdb2c"), looks := false }, kinds := [], alts := [], laidByText := true, laidKinds := [.data], laidTests := true, laidLooks := .later }
def LiveIntervalsCardSaid : Prop := Claim7.holds Tryd.pinned (.plain (OpenSpec.ofChange liveIntervalsSpec)) liveIntervalsCard

/-- THE TIED CARD OF 'quernlaw17.LiveWays'. -/
def liveWaysCard : Claim7 := { stood := { row := liveWaysRow, standIns := [], harness := (true, "c7be01503316ed520f09f14eb2ae4235ad681ed4d01440bbe09814cc587fdb2c"), looks := false }, kinds := [], alts := [], laidByText := true, laidKinds := [.data], laidTests := true, laidLooks := .later }
def LiveWaysCardSaid : Prop := Claim7.holds Tryd.pinned (.plain (OpenSpec.ofChange liveWaysSpec)) liveWaysCard

/-- THE TIED CARD OF 'quernlaw17.LiveSpans'. -/
def liveSpansCard : Claim7 := { stood := { row := liveSpansRow, standIns := [], harness := (true, "c7be01503316ed520f09f14eb2ae4235ad681ed4d01440bbe09814cc587fdb2c"), looks := false }, kinds := [], alts := [], laidByText := true, laidKinds := [.data], laidTests := true, laidLooks := .later }
def LiveSpansCardSaid : Prop := Claim7.holds Tryd.pinned (.plain (OpenSpec.ofChange liveSpansSpec)) liveSpansCard

/-- THE TIED CARD OF 'quernlaw17.LiveLong'. -/
def liveLongCard : Claim7 := { stood := { row := liveLongRow, standIns := [], harness := (true, "c7be01503316ed520f09f14eb2ae4235ad681ed4d01440bbe09814cc587fdb2c"), looks := false }, kinds := [], alts := [], laidByText := true, laidKinds := [.data], laidTests := true, laidLooks := .later }
def LiveLongCardSaid : Prop := Claim7.holds Tryd.pinned (.plain (OpenSpec.ofChange liveLongSpec)) liveLongCard

/-- THE TIED CARD OF 'quernlaw17.LiveAll'. -/
def liveAllCard : Claim7 := { stood := { row := liveAllRow, standIns := [], harness := (true, "c7be01503316ed520f09f14eb2ae4235ad681ed4d01440bbe09814cc587fdb2c"), looks := false }, kinds := [], alts := [], laidByText := true, laidKinds := [.data], laidTests := true, laidLooks := .later }
def LiveAllCardSaid : Prop := Claim7.holds Tryd.pinned (.plain (OpenSpec.ofChange liveAllSpec)) liveAllCard

/-- THE SECOND FORM's CARD OF 'quernlaw17.LiveLive'. -/
def liveLiveUptoCard : Claim7 := { stood := { row := liveLiveUptoRow, standIns := [], harness := (true, "c7be01503316ed520f09f14eb2ae4235ad681ed4d01440bbe09814cc587fdb2c"), looks := false }, kinds := [], alts := [], laidByText := true, laidKinds := [.data], laidTests := true, laidLooks := .later }
def LiveLiveUptoCardSaid : Prop := Claim7.holds Tryd.pinned (.plain (OpenSpec.upto liveLiveSpec)) liveLiveUptoCard

/-- THE SECOND FORM's CARD OF 'quernlaw17.LiveIntervals'. -/
def liveIntervalsUptoCard : Claim7 := { stood := { row := liveIntervalsUptoRow, standIns := [], harness := (true, "c7be01503316ed520f09f14eb2ae4235ad681ed4d01440bbe09814cc587fdb2c"), looks := false }, kinds := [], alts := [], laidByText := true, laidKinds := [.data], laidTests := true, laidLooks := .later }
def LiveIntervalsUptoCardSaid : Prop := Claim7.holds Tryd.pinned (.plain (OpenSpec.upto liveIntervalsSpec)) liveIntervalsUptoCard

/-- THE SECOND FORM's CARD OF 'quernlaw17.LiveWays'. -/
def liveWaysUptoCard : Claim7 := { stood := { row := liveWaysUptoRow, standIns := [], harness := (true, "c7be01503316ed520f09f14eb2ae4235ad681ed4d01440bbe09814cc587fdb2c"), looks := false }, kinds := [], alts := [], laidByText := true, laidKinds := [.data], laidTests := true, laidLooks := .later }
def LiveWaysUptoCardSaid : Prop := Claim7.holds Tryd.pinned (.plain (OpenSpec.upto liveWaysSpec)) liveWaysUptoCard

/-- THE SECOND FORM's CARD OF 'quernlaw17.LiveSpans'. -/
def liveSpansUptoCard : Claim7 := { stood := { row := liveSpansUptoRow, standIns := [], harness := (true, "c7be01503316ed520f09f14eb2ae4235ad681ed4d01440bbe09814cc587fdb2c"), looks := false }, kinds := [], alts := [], laidByText := true, laidKinds := [.data], laidTests := true, laidLooks := .later }
def LiveSpansUptoCardSaid : Prop := Claim7.holds Tryd.pinned (.plain (OpenSpec.upto liveSpansSpec)) liveSpansUptoCard

/-- THE SECOND FORM's CARD OF 'quernlaw17.LiveLong'. -/
def liveLongUptoCard : Claim7 := { stood := { row := liveLongUptoRow, standIns := [], harness := (true, "c7be01503316ed520f09f14eb2ae4235ad681ed4d01440bbe09814cc587fdb2c"), looks := false }, kinds := [], alts := [], laidByText := true, laidKinds := [.data], laidTests := true, laidLooks := .later }
def LiveLongUptoCardSaid : Prop := Claim7.holds Tryd.pinned (.plain (OpenSpec.upto liveLongSpec)) liveLongUptoCard

/-- THE SECOND FORM's CARD OF 'quernlaw17.LiveAll'. -/
def liveAllUptoCard : Claim7 := { stood := { row := liveAllUptoRow, standIns := [], harness := (true, "c7be01503316ed520f09f14eb2ae4235ad681ed4d01440bbe09814cc587fdb2c"), looks := false }, kinds := [], alts := [], laidByText := true, laidKinds := [.data], laidTests := true, laidLooks := .later }
def LiveAllUptoCardSaid : Prop := Claim7.holds Tryd.pinned (.plain (OpenSpec.upto liveAllSpec)) liveAllUptoCard
end Rows
end Go.Proofs.YtjjfehdlmdhhmaaDoor
