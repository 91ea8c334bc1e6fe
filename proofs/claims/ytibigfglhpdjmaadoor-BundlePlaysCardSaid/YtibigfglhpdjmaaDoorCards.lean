/-
  DERIVED. GIVEN WITH THE SEED: THE CARDS: each row of YtibigfglhpdjmaaDoorRows.lean that lists a variable, with what it lists TIED to the program's text (the seventh form; the later family's looks); each row that meets fmt, with fmt's text TOLD by the authors' own Lean function (tested against real Go, not proved from fmt's source: count such statements apart). THE CARD IS WHAT COUNTS. Prove the row's statement (the work); the ties are given (YtibigfglhpdjmaaDoorTie.lean); close each card by the builder's one call (the guide's Derived/Test/ToyasCard.lean, 'card_holds'). Laid BY PROGRAM, IN A SANDBOX (cutbox-door.mjs). By AI agents, Wed Nov 11 2026. No macro, syntax, notation, axiom, sorry.
-/
import Derived.Test.YtibigfglhpdjmaaDoorRows
import GoSem.ClaimSeven
namespace Go.Proofs.YtibigfglhpdjmaaDoor
namespace Rows

/-- THE TIED CARD OF 'mailcoachlaw16.BundleNames'. -/
def bundleNamesCard : Claim7 := { stood := { row := bundleNamesRow, standIns := [], harness := (true, "eff3d74da62667f88345b2c4294fed54f10061ee99b5af88651650570e55e828"), looks := false }, kinds := [], alts := [], laidByText := true, laidKinds := [.data, .data, .data], laidTests := true, laidLooks := .later }
def BundleNamesCardSaid : Prop := Claim7.holds Tryd.pinned (.plain (OpenSpec.ofChange bundleNamesSpec)) bundleNamesCard

/-- THE TIED CARD OF 'mailcoachlaw16.BundleHashes'. -/
def bundleHashesCard : Claim7 := { stood := { row := bundleHashesRow, standIns := [], harness := (true, "eff3d74da62667f88345b2c4294fed54f10061ee99b5af88651650570e55e828"), looks := false }, kinds := [], alts := [], laidByText := true, laidKinds := [.data, .data, .data], laidTests := true, laidLooks := .later }
def BundleHashesCardSaid : Prop := Claim7.holds Tryd.pinned (.plain (OpenSpec.ofChange bundleHashesSpec)) bundleHashesCard

/-- THE TIED CARD OF 'mailcoachlaw16.BundlePlays'. -/
def bundlePlaysCard : Claim7 := { stood := { row := bundlePlaysRow, standIns := [], harness := (true, "eff3d74da62667f88345b2c4294fed54f10061ee99b5af88651650570e55e828"), looks := false }, kinds := [], alts := [], laidByText := true, laidKinds := [.data, .data, .data], laidTests := true, laidLooks := .later }
def BundlePlaysCardSaid : Prop := Claim7.holds Tryd.pinned (.plain (OpenSpec.ofChange bundlePlaysSpec)) bundlePlaysCard

/-- THE TIED CARD OF 'mailcoachlaw16.BundleBack'. -/
def bundleBackCard : Claim7 := { stood := { row := bundleBackRow, standIns := [], harness := (true, "eff3d74da62667f88345b2c4294fed54f10061ee99b5af88651650570e55e828"), looks := false }, kinds := [], alts := [], laidByText := true, laidKinds := [.data, .data, .data], laidTests := true, laidLooks := .later }
def BundleBackCardSaid : Prop := Claim7.holds Tryd.pinned (.plain (OpenSpec.ofChange bundleBackSpec)) bundleBackCard

/-- THE TIED CARD OF 'mailcoachlaw16.BundleNil'. -/
def bundleNilCard : Claim7 := { stood := { row := bundleNilRow, standIns := [], harness := (true, "eff3d74da62667f88345b2c4294fed54f10061ee99b5af88651650570e55e828"), looks := false }, kinds := [], alts := [], laidByText := true, laidKinds := [.data, .data, .data], laidTests := true, laidLooks := .later }
def BundleNilCardSaid : Prop := Claim7.holds Tryd.pinned (.plain (OpenSpec.ofChange bundleNilSpec)) bundleNilCard

/-- THE SECOND FORM's CARD OF 'mailcoachlaw16.BundleNames'. -/
def bundleNamesUptoCard : Claim7 := { stood := { row := bundleNamesUptoRow, standIns := [], harness := (true, "eff3d74da62667f88345b2c4294fed54f10061ee99b5af88651650570e55e828"), looks := false }, kinds := [], alts := [], laidByText := true, laidKinds := [.data, .data, .data], laidTests := true, laidLooks := .later }
def BundleNamesUptoCardSaid : Prop := Claim7.holds Tryd.pinned (.plain (OpenSpec.upto bundleNamesSpec)) bundleNamesUptoCard

/-- THE SECOND FORM's CARD OF 'mailcoachlaw16.BundleHashes'. -/
def bundleHashesUptoCard : Claim7 := { stood := { row := bundleHashesUptoRow, standIns := [], harness := (true, "eff3d74da62667f88345b2c4294fed54f10061ee99b5af88651650570e55e828"), looks := false }, kinds := [], alts := [], laidByText := true, laidKinds := [.data, .data, .data], laidTests := true, laidLooks := .later }
def BundleHashesUptoCardSaid : Prop := Claim7.holds Tryd.pinned (.plain (OpenSpec.upto bundleHashesSpec)) bundleHashesUptoCard

/-- THE SECOND FORM's CARD OF 'mailcoachlaw16.BundlePlays'. -/
def bundlePlaysUptoCard : Claim7 := { stood := { row := bundlePlaysUptoRow, standIns := [], harness := (true, "eff3d74da62667f88345b2c4294fed54f10061ee99b5af88651650570e55e828"), looks := false }, kinds := [], alts := [], laidByText := true, laidKinds := [.data, .data, .data], laidTests := true, laidLooks := .later }
def BundlePlaysUptoCardSaid : Prop := Claim7.holds Tryd.pinned (.plain (OpenSpec.upto bundlePlaysSpec)) bundlePlaysUptoCard

/-- THE SECOND FORM's CARD OF 'mailcoachlaw16.BundleBack'. -/
def bundleBackUptoCard : Claim7 := { stood := { row := bundleBackUptoRow, standIns := [], harness := (true, "eff3d74da62667f88345b2c4294fed54f10061ee99b5af88651650570e55e828"), looks := false }, kinds := [], alts := [], laidByText := true, laidKinds := [.data, .data, .data], laidTests := true, laidLooks := .later }
def BundleBackUptoCardSaid : Prop := Claim7.holds Tryd.pinned (.plain (OpenSpec.upto bundleBackSpec)) bundleBackUptoCard

/-- THE SECOND FORM's CARD OF 'mailcoachlaw16.BundleNil'. -/
def bundleNilUptoCard : Claim7 := { stood := { row := bundleNilUptoRow, standIns := [], harness := (true, "eff3d74da62667f88345b2c4294fed54f10061ee99b5af88651650570e55e828"), looks := false }, kinds := [], alts := [], laidByText := true, laidKinds := [.data, .data, .data], laidTests := true, laidLooks := .later }
def BundleNilUptoCardSaid : Prop := Claim7.holds Tryd.pinned (.plain (OpenSpec.upto bundleNilSpec)) bundleNilUptoCard
end Rows
end Go.Proofs.YtibigfglhpdjmaaDoor
