/-
  DERIVED. GIVEN WITH THE SEED: THE CARDS: each row of YtiiaklaojlnokaaGreatDoorRows.lean that lists a variable, with what it lists TIED to the program's text (the seventh form; the later family's looks); each row that meets fmt, with fmt's text TOLD by the authors' own Lean function (tested against real Go, not proved from fmt's source: count such statements apart). THE CARD IS WHAT COUNTS. Prove the row's statement (the work); the ties are given (YtiiaklaojlnokaaGreatDoorTie.lean); close each card by the builder's one call (the guide's Derived/Test/ToyasCard.lean, 'card_holds'). Laid BY PROGRAM, IN A SANDBOX (cutbox-door.mjs). By AI agents, Wed Nov 11 2026. No macro, syntax, notation, axiom, sorry.
-/
import Derived.Test.YtiiaklaojlnokaaGreatDoorRows
import GoSem.ClaimSeven
namespace Go.Proofs.YtiiaklaojlnokaaGreatDoor
namespace Rows

/-- THE TIED CARD OF 'ligaturelaw10.VocabLoads'. -/
def vocabLoadsCard : Claim7 := { stood := { row := vocabLoadsRow, standIns := [], harness := (true, "9615e467332f8fa320b4f916c0a0559a5ce43df28656a04104306f52f641a015"), looks := true }, kinds := [], alts := [], laidByText := true, laidKinds := [.data, .data, .data, .data, .sentinel, .sentinel, .pinned], laidTests := true, laidLooks := .later }
def VocabLoadsCardSaid : Prop := Claim7.holds Tryz.pinned (.plain (OpenSpec.ofChange vocabLoadsSpec)) vocabLoadsCard

/-- THE TIED CARD OF 'ligaturelaw10.VocabNews'. -/
def vocabNewsCard : Claim7 := { stood := { row := vocabNewsRow, standIns := [], harness := (true, "9615e467332f8fa320b4f916c0a0559a5ce43df28656a04104306f52f641a015"), looks := true }, kinds := [], alts := [], laidByText := true, laidKinds := [.data, .data, .data, .data, .sentinel, .sentinel, .pinned], laidTests := true, laidLooks := .later }
def VocabNewsCardSaid : Prop := Claim7.holds Tryz.pinned (.plain (OpenSpec.ofChange vocabNewsSpec)) vocabNewsCard

/-- THE TIED CARD OF 'ligaturelaw10.VocabOwn'. -/
def vocabOwnCard : Claim7 := { stood := { row := vocabOwnRow, standIns := [], harness := (true, "9615e467332f8fa320b4f916c0a0559a5ce43df28656a04104306f52f641a015"), looks := true }, kinds := [], alts := [], laidByText := true, laidKinds := [.data, .data, .data, .data, .sentinel, .sentinel, .pinned], laidTests := true, laidLooks := .later }
def VocabOwnCardSaid : Prop := Claim7.holds Tryz.pinned (.plain (OpenSpec.ofChange vocabOwnSpec)) vocabOwnCard

/-- THE TIED CARD OF 'ligaturelaw10.VocabAlone'. -/
def vocabAloneCard : Claim7 := { stood := { row := vocabAloneRow, standIns := [], harness := (true, "9615e467332f8fa320b4f916c0a0559a5ce43df28656a04104306f52f641a015"), looks := true }, kinds := [], alts := [], laidByText := true, laidKinds := [.data, .data, .data, .data, .sentinel, .sentinel, .pinned], laidTests := true, laidLooks := .later }
def VocabAloneCardSaid : Prop := Claim7.holds Tryz.pinned (.plain (OpenSpec.ofChange vocabAloneSpec)) vocabAloneCard

/-- THE TIED CARD OF 'ligaturelaw10.VocabItems'. -/
def vocabItemsCard : Claim7 := { stood := { row := vocabItemsRow, standIns := [], harness := (true, "9615e467332f8fa320b4f916c0a0559a5ce43df28656a04104306f52f641a015"), looks := true }, kinds := [], alts := [], laidByText := true, laidKinds := [.data, .data, .data, .data, .sentinel, .sentinel, .pinned], laidTests := true, laidLooks := .later }
def VocabItemsCardSaid : Prop := Claim7.holds Tryz.pinned (.plain (OpenSpec.ofChange vocabItemsSpec)) vocabItemsCard

/-- THE TIED CARD OF 'ligaturelaw10.VocabNone'. -/
def vocabNoneCard : Claim7 := { stood := { row := vocabNoneRow, standIns := [], harness := (true, "9615e467332f8fa320b4f916c0a0559a5ce43df28656a04104306f52f641a015"), looks := true }, kinds := [], alts := [], laidByText := true, laidKinds := [.data, .data, .data, .data, .sentinel, .sentinel, .pinned], laidTests := true, laidLooks := .later }
def VocabNoneCardSaid : Prop := Claim7.holds Tryz.pinned (.plain (OpenSpec.ofChange vocabNoneSpec)) vocabNoneCard

/-- THE SECOND FORM's CARD OF 'ligaturelaw10.VocabLoads'. -/
def vocabLoadsUptoCard : Claim7 := { stood := { row := vocabLoadsUptoRow, standIns := [], harness := (true, "9615e467332f8fa320b4f916c0a0559a5ce43df28656a04104306f52f641a015"), looks := true }, kinds := [], alts := [], laidByText := true, laidKinds := [.data, .data, .data, .data, .sentinel, .sentinel, .pinned], laidTests := true, laidLooks := .later }
def VocabLoadsUptoCardSaid : Prop := Claim7.holds Tryz.pinned (.plain (OpenSpec.upto vocabLoadsSpec)) vocabLoadsUptoCard

/-- THE SECOND FORM's CARD OF 'ligaturelaw10.VocabNews'. -/
def vocabNewsUptoCard : Claim7 := { stood := { row := vocabNewsUptoRow, standIns := [], harness := (true, "9615e467332f8fa320b4f916c0a0559a5ce43df28656a04104306f52f641a015"), looks := true }, kinds := [], alts := [], laidByText := true, laidKinds := [.data, .data, .data, .data, .sentinel, .sentinel, .pinned], laidTests := true, laidLooks := .later }
def VocabNewsUptoCardSaid : Prop := Claim7.holds Tryz.pinned (.plain (OpenSpec.upto vocabNewsSpec)) vocabNewsUptoCard

/-- THE SECOND FORM's CARD OF 'ligaturelaw10.VocabOwn'. -/
def vocabOwnUptoCard : Claim7 := { stood := { row := vocabOwnUptoRow, standIns := [], harness := (true, "9615e467332f8fa320b4f916c0a0559a5ce43df28656a04104306f52f641a015"), looks := true }, kinds := [], alts := [], laidByText := true, laidKinds := [.data, .data, .data, .data, .sentinel, .sentinel, .pinned], laidTests := true, laidLooks := .later }
def VocabOwnUptoCardSaid : Prop := Claim7.holds Tryz.pinned (.plain (OpenSpec.upto vocabOwnSpec)) vocabOwnUptoCard

/-- THE SECOND FORM's CARD OF 'ligaturelaw10.VocabAlone'. -/
def vocabAloneUptoCard : Claim7 := { stood := { row := vocabAloneUptoRow, standIns := [], harness := (true, "9615e467332f8fa320b4f916c0a0559a5ce43df28656a04104306f52f641a015"), looks := true }, kinds := [], alts := [], laidByText := true, laidKinds := [.data, .data, .data, .data, .sentinel, .sentinel, .pinned], laidTests := true, laidLooks := .later }
def VocabAloneUptoCardSaid : Prop := Claim7.holds Tryz.pinned (.plain (OpenSpec.upto vocabAloneSpec)) vocabAloneUptoCard

/-- THE SECOND FORM's CARD OF 'ligaturelaw10.VocabItems'. -/
def vocabItemsUptoCard : Claim7 := { stood := { row := vocabItemsUptoRow, standIns := [], harness := (true, "9615e467332f8fa320b4f916c0a0559a5ce43df28656a04104306f52f641a015"), looks := true }, kinds := [], alts := [], laidByText := true, laidKinds := [.data, .data, .data, .data, .sentinel, .sentinel, .pinned], laidTests := true, laidLooks := .later }
def VocabItemsUptoCardSaid : Prop := Claim7.holds Tryz.pinned (.plain (OpenSpec.upto vocabItemsSpec)) vocabItemsUptoCard

/-- THE SECOND FORM's CARD OF 'ligaturelaw10.VocabNone'. -/
def vocabNoneUptoCard : Claim7 := { stood := { row := vocabNoneUptoRow, standIns := [], harness := (true, "9615e467332f8fa320b4f916c0a0559a5ce43df28656a04104306f52f641a015"), looks := true }, kinds := [], alts := [], laidByText := true, laidKinds := [.data, .data, .data, .data, .sentinel, .sentinel, .pinned], laidTests := true, laidLooks := .later }
def VocabNoneUptoCardSaid : Prop := Claim7.holds Tryz.pinned (.plain (OpenSpec.upto vocabNoneSpec)) vocabNoneUptoCard
end Rows
end Go.Proofs.YtiiaklaojlnokaaGreatDoor
