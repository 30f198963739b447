/-
  DERIVED. GIVEN WITH THE SEED: THE CARDS: each row of YtaahffminoekfaaDoorRows.lean that lists a variable, with what it lists TIED to the program's text (the seventh form; the later family's looks); each row that meets fmt, with fmt's text TOLD by the authors' own Lean function (tested against real Go, not proved from fmt's source: count such statements apart). THE CARD IS WHAT COUNTS. Prove the row's statement (the work); the ties are given (YtaahffminoekfaaDoorTie.lean); close each card by the builder's one call (the guide's Derived/Test/ToyasCard.lean, 'card_holds'). Laid BY PROGRAM, IN A SANDBOX (cutbox-door.mjs). By AI agents, Wed Nov 11 2026. No macro, syntax, notation, axiom, sorry.
-/
import Derived.Test.YtaahffminoekfaaDoorRows
import GoSem.ClaimSeven
namespace Go.Proofs.YtaahffminoekfaaDoor
namespace Rows

/-- THE TIED CARD OF 'syngraphlaw01.ShaSums'. -/
def shaSumsCard : Claim7 := { stood := { row := shaSumsRow, standIns := [], harness := (true, "1af1f1f09c23c338e8ec2698c47cab3646baaeaea1caaf316a9c50c0218050c7"), looks := false }, kinds := [], alts := [], laidByText := true, laidKinds := [.data, .data], laidTests := true, laidLooks := .later }
def ShaSumsCardSaid : Prop := Claim7.holds Tryd.pinned (.plain (OpenSpec.ofChange shaSumsSpec)) shaSumsCard

/-- THE TIED CARD OF 'syngraphlaw01.ShaParts'. -/
def shaPartsCard : Claim7 := { stood := { row := shaPartsRow, standIns := [], harness := (true, "1af1f1f09c23c338e8ec2698c47cab3646baaeaea1caaf316a9c50c0218050c7"), looks := false }, kinds := [], alts := [], laidByText := true, laidKinds := [.data, .data], laidTests := true, laidLooks := .later }
def ShaPartsCardSaid : Prop := Claim7.holds Tryd.pinned (.plain (OpenSpec.ofChange shaPartsSpec)) shaPartsCard

/-- THE TIED CARD OF 'syngraphlaw01.ShaCopies'. -/
def shaCopiesCard : Claim7 := { stood := { row := shaCopiesRow, standIns := [], harness := (true, "1af1f1f09c23c338e8ec2698c47cab3646baaeaea1caaf316a9c50c0218050c7"), looks := false }, kinds := [], alts := [], laidByText := true, laidKinds := [.data, .data], laidTests := true, laidLooks := .later }
def ShaCopiesCardSaid : Prop := Claim7.holds Tryd.pinned (.plain (OpenSpec.ofChange shaCopiesSpec)) shaCopiesCard

/-- THE TIED CARD OF 'syngraphlaw01.ShaOrders'. -/
def shaOrdersCard : Claim7 := { stood := { row := shaOrdersRow, standIns := [], harness := (true, "1af1f1f09c23c338e8ec2698c47cab3646baaeaea1caaf316a9c50c0218050c7"), looks := false }, kinds := [], alts := [], laidByText := true, laidKinds := [.data, .data], laidTests := true, laidLooks := .later }
def ShaOrdersCardSaid : Prop := Claim7.holds Tryd.pinned (.plain (OpenSpec.ofChange shaOrdersSpec)) shaOrdersCard

/-- THE TIED CARD OF 'syngraphlaw02.TagBytes'. -/
def tagBytesCard : Claim7 := { stood := { row := tagBytesRow, standIns := [], harness := (true, "1af1f1f09c23c338e8ec2698c47cab3646baaeaea1caaf316a9c50c0218050c7"), looks := false }, kinds := [], alts := [], laidByText := true, laidKinds := [.data, .data], laidTests := true, laidLooks := .later }
def TagBytesCardSaid : Prop := Claim7.holds Tryd.pinned (.plain (OpenSpec.ofChange tagBytesSpec)) tagBytesCard

/-- THE TIED CARD OF 'syngraphlaw01.ShaTexts'. -/
def shaTextsCard : Claim7 := { stood := { row := shaTextsRow, standIns := [], harness := (true, "1af1f1f09c23c338e8ec2698c47cab3646baaeaea1caaf316a9c50c0218050c7"), looks := false }, kinds := [], alts := [], laidByText := true, laidKinds := [.data, .data], laidTests := true, laidLooks := .later }
def ShaTextsCardSaid : Prop := Claim7.holds Tryd.pinned (.plain (OpenSpec.ofChange shaTextsSpec)) shaTextsCard

/-- THE TIED CARD OF 'syngraphlaw01.ShaParses'. -/
def shaParsesCard : Claim7 := { stood := { row := shaParsesRow, standIns := [], harness := (true, "1af1f1f09c23c338e8ec2698c47cab3646baaeaea1caaf316a9c50c0218050c7"), looks := false }, kinds := [], alts := [], laidByText := true, laidKinds := [.data, .data], laidTests := true, laidLooks := .later }
def ShaParsesCardSaid : Prop := Claim7.holds Tryd.pinned (.plain (OpenSpec.ofChange shaParsesSpec)) shaParsesCard

/-- THE TIED CARD OF 'syngraphlaw02.TagHashes'. -/
def tagHashesCard : Claim7 := { stood := { row := tagHashesRow, standIns := [], harness := (true, "1af1f1f09c23c338e8ec2698c47cab3646baaeaea1caaf316a9c50c0218050c7"), looks := false }, kinds := [], alts := [], laidByText := true, laidKinds := [.data, .data], laidTests := true, laidLooks := .later }
def TagHashesCardSaid : Prop := Claim7.holds Tryd.pinned (.plain (OpenSpec.ofChange tagHashesSpec)) tagHashesCard

/-- THE TIED CARD OF 'syngraphlaw04.WotsDigits'. -/
def wotsDigitsCard : Claim7 := { stood := { row := wotsDigitsRow, standIns := [], harness := (true, "1af1f1f09c23c338e8ec2698c47cab3646baaeaea1caaf316a9c50c0218050c7"), looks := false }, kinds := [], alts := [], laidByText := true, laidKinds := [.data, .data], laidTests := true, laidLooks := .later }
def WotsDigitsCardSaid : Prop := Claim7.holds Tryd.pinned (.plain (OpenSpec.ofChange wotsDigitsSpec)) wotsDigitsCard

/-- THE TIED CARD OF 'syngraphlaw04.WotsWalks'. -/
def wotsWalksCard : Claim7 := { stood := { row := wotsWalksRow, standIns := [], harness := (true, "1af1f1f09c23c338e8ec2698c47cab3646baaeaea1caaf316a9c50c0218050c7"), looks := false }, kinds := [], alts := [], laidByText := true, laidKinds := [.data, .data], laidTests := true, laidLooks := .later }
def WotsWalksCardSaid : Prop := Claim7.holds Tryd.pinned (.plain (OpenSpec.ofChange wotsWalksSpec)) wotsWalksCard

/-- THE TIED CARD OF 'syngraphlaw02.TagInputs'. -/
def tagInputsCard : Claim7 := { stood := { row := tagInputsRow, standIns := [], harness := (true, "1af1f1f09c23c338e8ec2698c47cab3646baaeaea1caaf316a9c50c0218050c7"), looks := false }, kinds := [], alts := [], laidByText := true, laidKinds := [.data, .data], laidTests := true, laidLooks := .later }
def TagInputsCardSaid : Prop := Claim7.holds Tryd.pinned (.plain (OpenSpec.ofChange tagInputsSpec)) tagInputsCard

/-- THE TIED CARD OF 'syngraphlaw05.LamportOthers'. -/
def lamportOthersCard : Claim7 := { stood := { row := lamportOthersRow, standIns := [], harness := (true, "1af1f1f09c23c338e8ec2698c47cab3646baaeaea1caaf316a9c50c0218050c7"), looks := false }, kinds := [], alts := [], laidByText := true, laidKinds := [.data, .data], laidTests := true, laidLooks := .later }
def LamportOthersCardSaid : Prop := Claim7.holds Tryd.pinned (.plain (OpenSpec.ofChange lamportOthersSpec)) lamportOthersCard

/-- THE TIED CARD OF 'syngraphlaw04.WotsRecovers'. -/
def wotsRecoversCard : Claim7 := { stood := { row := wotsRecoversRow, standIns := [], harness := (true, "1af1f1f09c23c338e8ec2698c47cab3646baaeaea1caaf316a9c50c0218050c7"), looks := false }, kinds := [], alts := [], laidByText := true, laidKinds := [.data, .data], laidTests := true, laidLooks := .later }
def WotsRecoversCardSaid : Prop := Claim7.holds Tryd.pinned (.plain (OpenSpec.ofChange wotsRecoversSpec)) wotsRecoversCard

/-- THE TIED CARD OF 'syngraphlaw05.LamportRecovers'. -/
def lamportRecoversCard : Claim7 := { stood := { row := lamportRecoversRow, standIns := [], harness := (true, "1af1f1f09c23c338e8ec2698c47cab3646baaeaea1caaf316a9c50c0218050c7"), looks := false }, kinds := [], alts := [], laidByText := true, laidKinds := [.data, .data], laidTests := true, laidLooks := .later }
def LamportRecoversCardSaid : Prop := Claim7.holds Tryd.pinned (.plain (OpenSpec.ofChange lamportRecoversSpec)) lamportRecoversCard

/-- THE TIED CARD OF 'syngraphlaw02.TagSecrets'. -/
def tagSecretsCard : Claim7 := { stood := { row := tagSecretsRow, standIns := [], harness := (true, "1af1f1f09c23c338e8ec2698c47cab3646baaeaea1caaf316a9c50c0218050c7"), looks := false }, kinds := [], alts := [], laidByText := true, laidKinds := [.data, .data], laidTests := true, laidLooks := .later }
def TagSecretsCardSaid : Prop := Claim7.holds Tryd.pinned (.plain (OpenSpec.ofChange tagSecretsSpec)) tagSecretsCard

/-- THE TIED CARD OF 'syngraphlaw04.WotsSigns'. -/
def wotsSignsCard : Claim7 := { stood := { row := wotsSignsRow, standIns := [], harness := (true, "1af1f1f09c23c338e8ec2698c47cab3646baaeaea1caaf316a9c50c0218050c7"), looks := false }, kinds := [], alts := [], laidByText := true, laidKinds := [.data, .data], laidTests := true, laidLooks := .later }
def WotsSignsCardSaid : Prop := Claim7.holds Tryd.pinned (.plain (OpenSpec.ofChange wotsSignsSpec)) wotsSignsCard

/-- THE TIED CARD OF 'syngraphlaw05.LamportSigns'. -/
def lamportSignsCard : Claim7 := { stood := { row := lamportSignsRow, standIns := [], harness := (true, "1af1f1f09c23c338e8ec2698c47cab3646baaeaea1caaf316a9c50c0218050c7"), looks := false }, kinds := [], alts := [], laidByText := true, laidKinds := [.data, .data], laidTests := true, laidLooks := .later }
def LamportSignsCardSaid : Prop := Claim7.holds Tryd.pinned (.plain (OpenSpec.ofChange lamportSignsSpec)) lamportSignsCard

/-- THE TIED CARD OF 'syngraphlaw04.WotsForges'. -/
def wotsForgesCard : Claim7 := { stood := { row := wotsForgesRow, standIns := [], harness := (true, "1af1f1f09c23c338e8ec2698c47cab3646baaeaea1caaf316a9c50c0218050c7"), looks := false }, kinds := [], alts := [], laidByText := true, laidKinds := [.data, .data], laidTests := true, laidLooks := .later }
def WotsForgesCardSaid : Prop := Claim7.holds Tryd.pinned (.plain (OpenSpec.ofChange wotsForgesSpec)) wotsForgesCard

/-- THE SECOND FORM's CARD OF 'syngraphlaw01.ShaSums'. -/
def shaSumsUptoCard : Claim7 := { stood := { row := shaSumsUptoRow, standIns := [], harness := (true, "1af1f1f09c23c338e8ec2698c47cab3646baaeaea1caaf316a9c50c0218050c7"), looks := false }, kinds := [], alts := [], laidByText := true, laidKinds := [.data, .data], laidTests := true, laidLooks := .later }
def ShaSumsUptoCardSaid : Prop := Claim7.holds Tryd.pinned (.plain (OpenSpec.upto shaSumsSpec)) shaSumsUptoCard

/-- THE SECOND FORM's CARD OF 'syngraphlaw01.ShaParts'. -/
def shaPartsUptoCard : Claim7 := { stood := { row := shaPartsUptoRow, standIns := [], harness := (true, "1af1f1f09c23c338e8ec2698c47cab3646baaeaea1caaf316a9c50c0218050c7"), looks := false }, kinds := [], alts := [], laidByText := true, laidKinds := [.data, .data], laidTests := true, laidLooks := .later }
def ShaPartsUptoCardSaid : Prop := Claim7.holds Tryd.pinned (.plain (OpenSpec.upto shaPartsSpec)) shaPartsUptoCard

/-- THE SECOND FORM's CARD OF 'syngraphlaw01.ShaCopies'. -/
def shaCopiesUptoCard : Claim7 := { stood := { row := shaCopiesUptoRow, standIns := [], harness := (true, "1af1f1f09c23c338e8ec2698c47cab3646baaeaea1caaf316a9c50c0218050c7"), looks := false }, kinds := [], alts := [], laidByText := true, laidKinds := [.data, .data], laidTests := true, laidLooks := .later }
def ShaCopiesUptoCardSaid : Prop := Claim7.holds Tryd.pinned (.plain (OpenSpec.upto shaCopiesSpec)) shaCopiesUptoCard

/-- THE SECOND FORM's CARD OF 'syngraphlaw01.ShaOrders'. -/
def shaOrdersUptoCard : Claim7 := { stood := { row := shaOrdersUptoRow, standIns := [], harness := (true, "1af1f1f09c23c338e8ec2698c47cab3646baaeaea1caaf316a9c50c0218050c7"), looks := false }, kinds := [], alts := [], laidByText := true, laidKinds := [.data, .data], laidTests := true, laidLooks := .later }
def ShaOrdersUptoCardSaid : Prop := Claim7.holds Tryd.pinned (.plain (OpenSpec.upto shaOrdersSpec)) shaOrdersUptoCard

/-- THE SECOND FORM's CARD OF 'syngraphlaw02.TagBytes'. -/
def tagBytesUptoCard : Claim7 := { stood := { row := tagBytesUptoRow, standIns := [], harness := (true, "1af1f1f09c23c338e8ec2698c47cab3646baaeaea1caaf316a9c50c0218050c7"), looks := false }, kinds := [], alts := [], laidByText := true, laidKinds := [.data, .data], laidTests := true, laidLooks := .later }
def TagBytesUptoCardSaid : Prop := Claim7.holds Tryd.pinned (.plain (OpenSpec.upto tagBytesSpec)) tagBytesUptoCard

/-- THE SECOND FORM's CARD OF 'syngraphlaw01.ShaTexts'. -/
def shaTextsUptoCard : Claim7 := { stood := { row := shaTextsUptoRow, standIns := [], harness := (true, "1af1f1f09c23c338e8ec2698c47cab3646baaeaea1caaf316a9c50c0218050c7"), looks := false }, kinds := [], alts := [], laidByText := true, laidKinds := [.data, .data], laidTests := true, laidLooks := .later }
def ShaTextsUptoCardSaid : Prop := Claim7.holds Tryd.pinned (.plain (OpenSpec.upto shaTextsSpec)) shaTextsUptoCard

/-- THE SECOND FORM's CARD OF 'syngraphlaw01.ShaParses'. -/
def shaParsesUptoCard : Claim7 := { stood := { row := shaParsesUptoRow, standIns := [], harness := (true, "1af1f1f09c23c338e8ec2698c47cab3646baaeaea1caaf316a9c50c0218050c7"), looks := false }, kinds := [], alts := [], laidByText := true, laidKinds := [.data, .data], laidTests := true, laidLooks := .later }
def ShaParsesUptoCardSaid : Prop := Claim7.holds Tryd.pinned (.plain (OpenSpec.upto shaParsesSpec)) shaParsesUptoCard

/-- THE SECOND FORM's CARD OF 'syngraphlaw02.TagHashes'. -/
def tagHashesUptoCard : Claim7 := { stood := { row := tagHashesUptoRow, standIns := [], harness := (true, "1af1f1f09c23c338e8ec2698c47cab3646baaeaea1caaf316a9c50c0218050c7"), looks := false }, kinds := [], alts := [], laidByText := true, laidKinds := [.data, .data], laidTests := true, laidLooks := .later }
def TagHashesUptoCardSaid : Prop := Claim7.holds Tryd.pinned (.plain (OpenSpec.upto tagHashesSpec)) tagHashesUptoCard

/-- THE SECOND FORM's CARD OF 'syngraphlaw04.WotsDigits'. -/
def wotsDigitsUptoCard : Claim7 := { stood := { row := wotsDigitsUptoRow, standIns := [], harness := (true, "1af1f1f09c23c338e8ec2698c47cab3646baaeaea1caaf316a9c50c0218050c7"), looks := false }, kinds := [], alts := [], laidByText := true, laidKinds := [.data, .data], laidTests := true, laidLooks := .later }
def WotsDigitsUptoCardSaid : Prop := Claim7.holds Tryd.pinned (.plain (OpenSpec.upto wotsDigitsSpec)) wotsDigitsUptoCard

/-- THE SECOND FORM's CARD OF 'syngraphlaw04.WotsWalks'. -/
def wotsWalksUptoCard : Claim7 := { stood := { row := wotsWalksUptoRow, standIns := [], harness := (true, "1af1f1f09c23c338e8ec2698c47cab3646baaeaea1caaf316a9c50c0218050c7"), looks := false }, kinds := [], alts := [], laidByText := true, laidKinds := [.data, .data], laidTests := true, laidLooks := .later }
def WotsWalksUptoCardSaid : Prop := Claim7.holds Tryd.pinned (.plain (OpenSpec.upto wotsWalksSpec)) wotsWalksUptoCard

/-- THE SECOND FORM's CARD OF 'syngraphlaw02.TagInputs'. -/
def tagInputsUptoCard : Claim7 := { stood := { row := tagInputsUptoRow, standIns := [], harness := (true, "1af1f1f09c23c338e8ec2698c47cab3646baaeaea1caaf316a9c50c0218050c7"), looks := false }, kinds := [], alts := [], laidByText := true, laidKinds := [.data, .data], laidTests := true, laidLooks := .later }
def TagInputsUptoCardSaid : Prop := Claim7.holds Tryd.pinned (.plain (OpenSpec.upto tagInputsSpec)) tagInputsUptoCard

/-- THE SECOND FORM's CARD OF 'syngraphlaw05.LamportOthers'. -/
def lamportOthersUptoCard : Claim7 := { stood := { row := lamportOthersUptoRow, standIns := [], harness := (true, "1af1f1f09c23c338e8ec2698c47cab3646baaeaea1caaf316a9c50c0218050c7"), looks := false }, kinds := [], alts := [], laidByText := true, laidKinds := [.data, .data], laidTests := true, laidLooks := .later }
def LamportOthersUptoCardSaid : Prop := Claim7.holds Tryd.pinned (.plain (OpenSpec.upto lamportOthersSpec)) lamportOthersUptoCard

/-- THE SECOND FORM's CARD OF 'syngraphlaw04.WotsRecovers'. -/
def wotsRecoversUptoCard : Claim7 := { stood := { row := wotsRecoversUptoRow, standIns := [], harness := (true, "1af1f1f09c23c338e8ec2698c47cab3646baaeaea1caaf316a9c50c0218050c7"), looks := false }, kinds := [], alts := [], laidByText := true, laidKinds := [.data, .data], laidTests := true, laidLooks := .later }
def WotsRecoversUptoCardSaid : Prop := Claim7.holds Tryd.pinned (.plain (OpenSpec.upto wotsRecoversSpec)) wotsRecoversUptoCard

/-- THE SECOND FORM's CARD OF 'syngraphlaw05.LamportRecovers'. -/
def lamportRecoversUptoCard : Claim7 := { stood := { row := lamportRecoversUptoRow, standIns := [], harness := (true, "1af1f1f09c23c338e8ec2698c47cab3646baaeaea1caaf316a9c50c0218050c7"), looks := false }, kinds := [], alts := [], laidByText := true, laidKinds := [.data, .data], laidTests := true, laidLooks := .later }
def LamportRecoversUptoCardSaid : Prop := Claim7.holds Tryd.pinned (.plain (OpenSpec.upto lamportRecoversSpec)) lamportRecoversUptoCard

/-- THE SECOND FORM's CARD OF 'syngraphlaw02.TagSecrets'. -/
def tagSecretsUptoCard : Claim7 := { stood := { row := tagSecretsUptoRow, standIns := [], harness := (true, "1af1f1f09c23c338e8ec2698c47cab3646baaeaea1caaf316a9c50c0218050c7"), looks := false }, kinds := [], alts := [], laidByText := true, laidKinds := [.data, .data], laidTests := true, laidLooks := .later }
def TagSecretsUptoCardSaid : Prop := Claim7.holds Tryd.pinned (.plain (OpenSpec.upto tagSecretsSpec)) tagSecretsUptoCard

/-- THE SECOND FORM's CARD OF 'syngraphlaw04.WotsSigns'. -/
def wotsSignsUptoCard : Claim7 := { stood := { row := wotsSignsUptoRow, standIns := [], harness := (true, "1af1f1f09c23c338e8ec2698c47cab3646baaeaea1caaf316a9c50c0218050c7"), looks := false }, kinds := [], alts := [], laidByText := true, laidKinds := [.data, .data], laidTests := true, laidLooks := .later }
def WotsSignsUptoCardSaid : Prop := Claim7.holds Tryd.pinned (.plain (OpenSpec.upto wotsSignsSpec)) wotsSignsUptoCard

/-- THE SECOND FORM's CARD OF 'syngraphlaw05.LamportSigns'. -/
def lamportSignsUptoCard : Claim7 := { stood := { row := lamportSignsUptoRow, standIns := [], harness := (true, "1af1f1f09c23c338e8ec2698c47cab3646baaeaea1caaf316a9c50c0218050c7"), looks := false }, kinds := [], alts := [], laidByText := true, laidKinds := [.data, .data], laidTests := true, laidLooks := .later }
def LamportSignsUptoCardSaid : Prop := Claim7.holds Tryd.pinned (.plain (OpenSpec.upto lamportSignsSpec)) lamportSignsUptoCard

/-- THE SECOND FORM's CARD OF 'syngraphlaw04.WotsForges'. -/
def wotsForgesUptoCard : Claim7 := { stood := { row := wotsForgesUptoRow, standIns := [], harness := (true, "1af1f1f09c23c338e8ec2698c47cab3646baaeaea1caaf316a9c50c0218050c7"), looks := false }, kinds := [], alts := [], laidByText := true, laidKinds := [.data, .data], laidTests := true, laidLooks := .later }
def WotsForgesUptoCardSaid : Prop := Claim7.holds Tryd.pinned (.plain (OpenSpec.upto wotsForgesSpec)) wotsForgesUptoCard
end Rows
end Go.Proofs.YtaahffminoekfaaDoor
