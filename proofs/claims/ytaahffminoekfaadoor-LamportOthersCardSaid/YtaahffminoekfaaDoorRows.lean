/-
  NARROWER THAN 'FOR EVERY INPUT', by the rows' own cells (each row's printed sentence says how): ShaSums: laid · ShaParts: laid · ShaCopies: laid · ShaOrders: laid · TagBytes: laid · ShaTexts: laid · ShaParses: laid · TagHashes: laid · WotsDigits: laid · WotsWalks: laid · TagInputs: laid · LamportOthers: laid · WotsRecovers: laid · LamportRecovers: laid · TagSecrets: laid · WotsSigns: laid · LamportSigns: laid · WotsForges: laid.
  DERIVED. THE GIVEN ROWS OF THIS SEAT. 18 by the template 'for every input the law returns true; each argument reads behind the call as it read before'; 0 by the template 'total and deterministic' (their statements: YtaahffminoekfaaDoorTotals.lean).
  GIVEN WITH THE SEED: the statements are not yours to turn. If you find one false, say at which input.
  Laid BY PROGRAM, IN A SANDBOX (cutbox-rows.mjs): the forced cells as the released guide's own fill.sh prints them over the translation 22c1e9e34975b509… (all of the seat's roots in one cut). By AI agents, Wed Nov 11 2026. No macro, syntax, notation, axiom, sorry.
-/
import Derived.Test.YtaahffminoekfaaDoorChecked
import GoSem.Claim
import GoSem.ClaimJoined
import GoSem.ClaimMapViews
import Derived.JoinedTies
import Derived.KernelRfl
namespace Go.Proofs.YtaahffminoekfaaDoor
/- THE CELL 'sum', in the pinned program and in every row, IS THE sha256 OF THE DUMP (.gsa) THAT YtaahffminoekfaaDoorProg.lean LOADS. Nothing in Lean hashes anything: it is a label: what it is worth is what the hold of that sum in a sandbox is worth. -/
noncomputable def Tryd.pinned : Pinned := { name := "ytaahffminoekfaadoor", sum := "22c1e9e34975b50974f5968f88dc4eca22dc7e36319a934c9bcb147561afe45d", checked := Tryd.checked }
namespace Rows
def none {H : Type} : Left H := { results := [], args := [] }

/- WHAT THE LISTED PACKAGE-LEVEL VARIABLES READ AS WHEN THE CALL BEGINS. Each datum BY PROGRAM (the guide's laid-datum.mjs) off the statement by which the dump's own 'gosem.cut.vars' lays the variable. In a bare row this is a premise. The card (YtaahffminoekfaaDoorCards.lean) ties it to the program's text. -/
def laid_syngraph_sha_begin {H : Type} : DataW H := .agg [.lit (.int .u32 1779033703), .lit (.int .u32 3144134277), .lit (.int .u32 1013904242), .lit (.int .u32 2773480762), .lit (.int .u32 1359893119), .lit (.int .u32 2600822924), .lit (.int .u32 528734635), .lit (.int .u32 1541459225)]
def laid_syngraph_sha_table {H : Type} : DataW H := .agg [.lit (.int .u32 1116352408), .lit (.int .u32 1899447441), .lit (.int .u32 3049323471), .lit (.int .u32 3921009573), .lit (.int .u32 961987163), .lit (.int .u32 1508970993), .lit (.int .u32 2453635748), .lit (.int .u32 2870763221), .lit (.int .u32 3624381080), .lit (.int .u32 310598401), .lit (.int .u32 607225278), .lit (.int .u32 1426881987), .lit (.int .u32 1925078388), .lit (.int .u32 2162078206), .lit (.int .u32 2614888103), .lit (.int .u32 3248222580), .lit (.int .u32 3835390401), .lit (.int .u32 4022224774), .lit (.int .u32 264347078), .lit (.int .u32 604807628), .lit (.int .u32 770255983), .lit (.int .u32 1249150122), .lit (.int .u32 1555081692), .lit (.int .u32 1996064986), .lit (.int .u32 2554220882), .lit (.int .u32 2821834349), .lit (.int .u32 2952996808), .lit (.int .u32 3210313671), .lit (.int .u32 3336571891), .lit (.int .u32 3584528711), .lit (.int .u32 113926993), .lit (.int .u32 338241895), .lit (.int .u32 666307205), .lit (.int .u32 773529912), .lit (.int .u32 1294757372), .lit (.int .u32 1396182291), .lit (.int .u32 1695183700), .lit (.int .u32 1986661051), .lit (.int .u32 2177026350), .lit (.int .u32 2456956037), .lit (.int .u32 2730485921), .lit (.int .u32 2820302411), .lit (.int .u32 3259730800), .lit (.int .u32 3345764771), .lit (.int .u32 3516065817), .lit (.int .u32 3600352804), .lit (.int .u32 4094571909), .lit (.int .u32 275423344), .lit (.int .u32 430227734), .lit (.int .u32 506948616), .lit (.int .u32 659060556), .lit (.int .u32 883997877), .lit (.int .u32 958139571), .lit (.int .u32 1322822218), .lit (.int .u32 1537002063), .lit (.int .u32 1747873779), .lit (.int .u32 1955562222), .lit (.int .u32 2024104815), .lit (.int .u32 2227730452), .lit (.int .u32 2361852424), .lit (.int .u32 2428436474), .lit (.int .u32 2756734187), .lit (.int .u32 3204031479), .lit (.int .u32 3329325298)]

/-- 'syngraphlaw01.ShaSums': WHATEVER THE INPUT: true; the input reads as it did. -/
def shaSumsSpec : ChangeSpec := { name := "shaSums", fn := fun _ => fun
  | [d] => { results := [.lit (.bool true)], args := [d] }
  | _ => none }
def shaSumsRow : OpenClaim := { program := "ytaahffminoekfaadoor", sum := "22c1e9e34975b50974f5968f88dc4eca22dc7e36319a934c9bcb147561afe45d", func := "syngraph/syngraphlaw01.ShaSums", spec := "shaSums", named := ["syngraph/sha.begin", "syngraph/sha.table"], apart := false, laid := [("syngraph/sha.begin", laid_syngraph_sha_begin), ("syngraph/sha.table", laid_syngraph_sha_table)] }
def ShaSumsSaid : Prop := shaSumsRow.holds Tryd.pinned (OpenSpec.ofChange shaSumsSpec)

/-- ITS FALSE NEIGHBOUR: 'it returns false'. Refute it at one input. -/
def shaSumsWrong : ChangeSpec := { name := "shaSums", fn := fun _ => fun
  | [d] => { results := [.lit (.bool false)], args := [d] }
  | _ => none }
def ShaSumsWrongFalsely : Prop := shaSumsRow.holds Tryd.pinned (OpenSpec.ofChange shaSumsWrong)

/-- 'syngraphlaw01.ShaParts': WHATEVER THE INPUT: true; the input reads as it did. -/
def shaPartsSpec : ChangeSpec := { name := "shaParts", fn := fun _ => fun
  | [d] => { results := [.lit (.bool true)], args := [d] }
  | _ => none }
def shaPartsRow : OpenClaim := { program := "ytaahffminoekfaadoor", sum := "22c1e9e34975b50974f5968f88dc4eca22dc7e36319a934c9bcb147561afe45d", func := "syngraph/syngraphlaw01.ShaParts", spec := "shaParts", named := ["syngraph/sha.begin", "syngraph/sha.table"], apart := false, laid := [("syngraph/sha.begin", laid_syngraph_sha_begin), ("syngraph/sha.table", laid_syngraph_sha_table)] }
def ShaPartsSaid : Prop := shaPartsRow.holds Tryd.pinned (OpenSpec.ofChange shaPartsSpec)

/-- ITS FALSE NEIGHBOUR: 'it returns false'. Refute it at one input. -/
def shaPartsWrong : ChangeSpec := { name := "shaParts", fn := fun _ => fun
  | [d] => { results := [.lit (.bool false)], args := [d] }
  | _ => none }
def ShaPartsWrongFalsely : Prop := shaPartsRow.holds Tryd.pinned (OpenSpec.ofChange shaPartsWrong)

/-- 'syngraphlaw01.ShaCopies': WHATEVER THE INPUT: true; the input reads as it did. -/
def shaCopiesSpec : ChangeSpec := { name := "shaCopies", fn := fun _ => fun
  | [d1, d2, d3] => { results := [.lit (.bool true)], args := [d1, d2, d3] }
  | _ => none }
def shaCopiesRow : OpenClaim := { program := "ytaahffminoekfaadoor", sum := "22c1e9e34975b50974f5968f88dc4eca22dc7e36319a934c9bcb147561afe45d", func := "syngraph/syngraphlaw01.ShaCopies", spec := "shaCopies", named := ["syngraph/sha.begin", "syngraph/sha.table"], apart := false, laid := [("syngraph/sha.begin", laid_syngraph_sha_begin), ("syngraph/sha.table", laid_syngraph_sha_table)] }
def ShaCopiesSaid : Prop := shaCopiesRow.holds Tryd.pinned (OpenSpec.ofChange shaCopiesSpec)

/-- ITS FALSE NEIGHBOUR: 'it returns false'. Refute it at one input. -/
def shaCopiesWrong : ChangeSpec := { name := "shaCopies", fn := fun _ => fun
  | [d1, d2, d3] => { results := [.lit (.bool false)], args := [d1, d2, d3] }
  | _ => none }
def ShaCopiesWrongFalsely : Prop := shaCopiesRow.holds Tryd.pinned (OpenSpec.ofChange shaCopiesWrong)

/-- 'syngraphlaw01.ShaOrders': WHATEVER THE INPUT: true; the input reads as it did. -/
def shaOrdersSpec : ChangeSpec := { name := "shaOrders", fn := fun _ => fun
  | [d1, d2] => { results := [.lit (.bool true)], args := [d1, d2] }
  | _ => none }
def shaOrdersRow : OpenClaim := { program := "ytaahffminoekfaadoor", sum := "22c1e9e34975b50974f5968f88dc4eca22dc7e36319a934c9bcb147561afe45d", func := "syngraph/syngraphlaw01.ShaOrders", spec := "shaOrders", inPlace := ["internal/bytealg.Compare"], named := ["syngraph/sha.begin", "syngraph/sha.table"], apart := false, laid := [("syngraph/sha.begin", laid_syngraph_sha_begin), ("syngraph/sha.table", laid_syngraph_sha_table)] }
def ShaOrdersSaid : Prop := shaOrdersRow.holds Tryd.pinned (OpenSpec.ofChange shaOrdersSpec)

/-- ITS FALSE NEIGHBOUR: 'it returns false'. Refute it at one input. -/
def shaOrdersWrong : ChangeSpec := { name := "shaOrders", fn := fun _ => fun
  | [d1, d2] => { results := [.lit (.bool false)], args := [d1, d2] }
  | _ => none }
def ShaOrdersWrongFalsely : Prop := shaOrdersRow.holds Tryd.pinned (OpenSpec.ofChange shaOrdersWrong)

/-- 'syngraphlaw02.TagBytes': WHATEVER THE INPUT: true; the input reads as it did. -/
def tagBytesSpec : ChangeSpec := { name := "tagBytes", fn := fun _ => fun
  | [d1, d2] => { results := [.lit (.bool true)], args := [d1, d2] }
  | _ => none }
def tagBytesRow : OpenClaim := { program := "ytaahffminoekfaadoor", sum := "22c1e9e34975b50974f5968f88dc4eca22dc7e36319a934c9bcb147561afe45d", func := "syngraph/syngraphlaw02.TagBytes", spec := "tagBytes", named := ["syngraph/sha.begin", "syngraph/sha.table"], apart := false, laid := [("syngraph/sha.begin", laid_syngraph_sha_begin), ("syngraph/sha.table", laid_syngraph_sha_table)] }
def TagBytesSaid : Prop := tagBytesRow.holds Tryd.pinned (OpenSpec.ofChange tagBytesSpec)

/-- ITS FALSE NEIGHBOUR: 'it returns false'. Refute it at one input. -/
def tagBytesWrong : ChangeSpec := { name := "tagBytes", fn := fun _ => fun
  | [d1, d2] => { results := [.lit (.bool false)], args := [d1, d2] }
  | _ => none }
def TagBytesWrongFalsely : Prop := tagBytesRow.holds Tryd.pinned (OpenSpec.ofChange tagBytesWrong)

/-- 'syngraphlaw01.ShaTexts': WHATEVER THE INPUT: true; the input reads as it did. -/
def shaTextsSpec : ChangeSpec := { name := "shaTexts", fn := fun _ => fun
  | [d] => { results := [.lit (.bool true)], args := [d] }
  | _ => none }
def shaTextsRow : OpenClaim := { program := "ytaahffminoekfaadoor", sum := "22c1e9e34975b50974f5968f88dc4eca22dc7e36319a934c9bcb147561afe45d", func := "syngraph/syngraphlaw01.ShaTexts", spec := "shaTexts", inPlace := ["internal/bytealg.IndexByte"], named := ["syngraph/sha.begin", "syngraph/sha.table"], apart := false, laid := [("syngraph/sha.begin", laid_syngraph_sha_begin), ("syngraph/sha.table", laid_syngraph_sha_table)] }
def ShaTextsSaid : Prop := shaTextsRow.holds Tryd.pinned (OpenSpec.ofChange shaTextsSpec)

/-- ITS FALSE NEIGHBOUR: 'it returns false'. Refute it at one input. -/
def shaTextsWrong : ChangeSpec := { name := "shaTexts", fn := fun _ => fun
  | [d] => { results := [.lit (.bool false)], args := [d] }
  | _ => none }
def ShaTextsWrongFalsely : Prop := shaTextsRow.holds Tryd.pinned (OpenSpec.ofChange shaTextsWrong)

/-- 'syngraphlaw01.ShaParses': WHATEVER THE INPUT: true; the input reads as it did. -/
def shaParsesSpec : ChangeSpec := { name := "shaParses", fn := fun _ => fun
  | [d] => { results := [.lit (.bool true)], args := [d] }
  | _ => none }
def shaParsesRow : OpenClaim := { program := "ytaahffminoekfaadoor", sum := "22c1e9e34975b50974f5968f88dc4eca22dc7e36319a934c9bcb147561afe45d", func := "syngraph/syngraphlaw01.ShaParses", spec := "shaParses", inPlace := ["internal/bytealg.IndexByte"], named := ["syngraph/sha.begin", "syngraph/sha.table"], apart := false, laid := [("syngraph/sha.begin", laid_syngraph_sha_begin), ("syngraph/sha.table", laid_syngraph_sha_table)] }
def ShaParsesSaid : Prop := shaParsesRow.holds Tryd.pinned (OpenSpec.ofChange shaParsesSpec)

/-- ITS FALSE NEIGHBOUR: 'it returns false'. Refute it at one input. -/
def shaParsesWrong : ChangeSpec := { name := "shaParses", fn := fun _ => fun
  | [d] => { results := [.lit (.bool false)], args := [d] }
  | _ => none }
def ShaParsesWrongFalsely : Prop := shaParsesRow.holds Tryd.pinned (OpenSpec.ofChange shaParsesWrong)

/-- 'syngraphlaw02.TagHashes': WHATEVER THE INPUT: true; the input reads as it did. -/
def tagHashesSpec : ChangeSpec := { name := "tagHashes", fn := fun _ => fun
  | [d1, d2, d3] => { results := [.lit (.bool true)], args := [d1, d2, d3] }
  | _ => none }
def tagHashesRow : OpenClaim := { program := "ytaahffminoekfaadoor", sum := "22c1e9e34975b50974f5968f88dc4eca22dc7e36319a934c9bcb147561afe45d", func := "syngraph/syngraphlaw02.TagHashes", spec := "tagHashes", unfollowed := true, recurses := true, named := ["syngraph/sha.begin", "syngraph/sha.table"], apart := false, laid := [("syngraph/sha.begin", laid_syngraph_sha_begin), ("syngraph/sha.table", laid_syngraph_sha_table)] }
def TagHashesSaid : Prop := tagHashesRow.holds Tryd.pinned (OpenSpec.ofChange tagHashesSpec)

/-- ITS FALSE NEIGHBOUR: 'it returns false'. Refute it at one input. -/
def tagHashesWrong : ChangeSpec := { name := "tagHashes", fn := fun _ => fun
  | [d1, d2, d3] => { results := [.lit (.bool false)], args := [d1, d2, d3] }
  | _ => none }
def TagHashesWrongFalsely : Prop := tagHashesRow.holds Tryd.pinned (OpenSpec.ofChange tagHashesWrong)

/-- 'syngraphlaw04.WotsDigits': WHATEVER THE INPUT: true; the input reads as it did. -/
def wotsDigitsSpec : ChangeSpec := { name := "wotsDigits", fn := fun _ => fun
  | [d1, d2] => { results := [.lit (.bool true)], args := [d1, d2] }
  | _ => none }
def wotsDigitsRow : OpenClaim := { program := "ytaahffminoekfaadoor", sum := "22c1e9e34975b50974f5968f88dc4eca22dc7e36319a934c9bcb147561afe45d", func := "syngraph/syngraphlaw04.WotsDigits", spec := "wotsDigits", unfollowed := true, recurses := true, named := ["syngraph/sha.begin", "syngraph/sha.table"], apart := false, laid := [("syngraph/sha.begin", laid_syngraph_sha_begin), ("syngraph/sha.table", laid_syngraph_sha_table)] }
def WotsDigitsSaid : Prop := wotsDigitsRow.holds Tryd.pinned (OpenSpec.ofChange wotsDigitsSpec)

/-- ITS FALSE NEIGHBOUR: 'it returns false'. Refute it at one input. -/
def wotsDigitsWrong : ChangeSpec := { name := "wotsDigits", fn := fun _ => fun
  | [d1, d2] => { results := [.lit (.bool false)], args := [d1, d2] }
  | _ => none }
def WotsDigitsWrongFalsely : Prop := wotsDigitsRow.holds Tryd.pinned (OpenSpec.ofChange wotsDigitsWrong)

/-- 'syngraphlaw04.WotsWalks': WHATEVER THE INPUT: true; the input reads as it did. -/
def wotsWalksSpec : ChangeSpec := { name := "wotsWalks", fn := fun _ => fun
  | [d1, d2, d3] => { results := [.lit (.bool true)], args := [d1, d2, d3] }
  | _ => none }
def wotsWalksRow : OpenClaim := { program := "ytaahffminoekfaadoor", sum := "22c1e9e34975b50974f5968f88dc4eca22dc7e36319a934c9bcb147561afe45d", func := "syngraph/syngraphlaw04.WotsWalks", spec := "wotsWalks", unfollowed := true, recurses := true, named := ["syngraph/sha.begin", "syngraph/sha.table"], apart := false, laid := [("syngraph/sha.begin", laid_syngraph_sha_begin), ("syngraph/sha.table", laid_syngraph_sha_table)] }
def WotsWalksSaid : Prop := wotsWalksRow.holds Tryd.pinned (OpenSpec.ofChange wotsWalksSpec)

/-- ITS FALSE NEIGHBOUR: 'it returns false'. Refute it at one input. -/
def wotsWalksWrong : ChangeSpec := { name := "wotsWalks", fn := fun _ => fun
  | [d1, d2, d3] => { results := [.lit (.bool false)], args := [d1, d2, d3] }
  | _ => none }
def WotsWalksWrongFalsely : Prop := wotsWalksRow.holds Tryd.pinned (OpenSpec.ofChange wotsWalksWrong)

/-- 'syngraphlaw02.TagInputs': WHATEVER THE INPUT: true; the input reads as it did. -/
def tagInputsSpec : ChangeSpec := { name := "tagInputs", fn := fun _ => fun
  | [d1, d2, d3] => { results := [.lit (.bool true)], args := [d1, d2, d3] }
  | _ => none }
def tagInputsRow : OpenClaim := { program := "ytaahffminoekfaadoor", sum := "22c1e9e34975b50974f5968f88dc4eca22dc7e36319a934c9bcb147561afe45d", func := "syngraph/syngraphlaw02.TagInputs", spec := "tagInputs", named := ["syngraph/sha.begin", "syngraph/sha.table"], apart := false, laid := [("syngraph/sha.begin", laid_syngraph_sha_begin), ("syngraph/sha.table", laid_syngraph_sha_table)] }
def TagInputsSaid : Prop := tagInputsRow.holds Tryd.pinned (OpenSpec.ofChange tagInputsSpec)

/-- ITS FALSE NEIGHBOUR: 'it returns false'. Refute it at one input. -/
def tagInputsWrong : ChangeSpec := { name := "tagInputs", fn := fun _ => fun
  | [d1, d2, d3] => { results := [.lit (.bool false)], args := [d1, d2, d3] }
  | _ => none }
def TagInputsWrongFalsely : Prop := tagInputsRow.holds Tryd.pinned (OpenSpec.ofChange tagInputsWrong)

/-- 'syngraphlaw05.LamportOthers': WHATEVER THE INPUT: true; the input reads as it did. -/
def lamportOthersSpec : ChangeSpec := { name := "lamportOthers", fn := fun _ => fun
  | [d1, d2, d3] => { results := [.lit (.bool true)], args := [d1, d2, d3] }
  | _ => none }
def lamportOthersRow : OpenClaim := { program := "ytaahffminoekfaadoor", sum := "22c1e9e34975b50974f5968f88dc4eca22dc7e36319a934c9bcb147561afe45d", func := "syngraph/syngraphlaw05.LamportOthers", spec := "lamportOthers", unfollowed := true, recurses := true, named := ["syngraph/sha.begin", "syngraph/sha.table"], apart := false, laid := [("syngraph/sha.begin", laid_syngraph_sha_begin), ("syngraph/sha.table", laid_syngraph_sha_table)] }
def LamportOthersSaid : Prop := lamportOthersRow.holds Tryd.pinned (OpenSpec.ofChange lamportOthersSpec)

/-- ITS FALSE NEIGHBOUR: 'it returns false'. Refute it at one input. -/
def lamportOthersWrong : ChangeSpec := { name := "lamportOthers", fn := fun _ => fun
  | [d1, d2, d3] => { results := [.lit (.bool false)], args := [d1, d2, d3] }
  | _ => none }
def LamportOthersWrongFalsely : Prop := lamportOthersRow.holds Tryd.pinned (OpenSpec.ofChange lamportOthersWrong)

/-- 'syngraphlaw04.WotsRecovers': WHATEVER THE INPUT: true; the input reads as it did. -/
def wotsRecoversSpec : ChangeSpec := { name := "wotsRecovers", fn := fun _ => fun
  | [d1, d2] => { results := [.lit (.bool true)], args := [d1, d2] }
  | _ => none }
def wotsRecoversRow : OpenClaim := { program := "ytaahffminoekfaadoor", sum := "22c1e9e34975b50974f5968f88dc4eca22dc7e36319a934c9bcb147561afe45d", func := "syngraph/syngraphlaw04.WotsRecovers", spec := "wotsRecovers", unfollowed := true, recurses := true, named := ["syngraph/sha.begin", "syngraph/sha.table"], apart := false, laid := [("syngraph/sha.begin", laid_syngraph_sha_begin), ("syngraph/sha.table", laid_syngraph_sha_table)] }
def WotsRecoversSaid : Prop := wotsRecoversRow.holds Tryd.pinned (OpenSpec.ofChange wotsRecoversSpec)

/-- ITS FALSE NEIGHBOUR: 'it returns false'. Refute it at one input. -/
def wotsRecoversWrong : ChangeSpec := { name := "wotsRecovers", fn := fun _ => fun
  | [d1, d2] => { results := [.lit (.bool false)], args := [d1, d2] }
  | _ => none }
def WotsRecoversWrongFalsely : Prop := wotsRecoversRow.holds Tryd.pinned (OpenSpec.ofChange wotsRecoversWrong)

/-- 'syngraphlaw05.LamportRecovers': WHATEVER THE INPUT: true; the input reads as it did. -/
def lamportRecoversSpec : ChangeSpec := { name := "lamportRecovers", fn := fun _ => fun
  | [d1, d2] => { results := [.lit (.bool true)], args := [d1, d2] }
  | _ => none }
def lamportRecoversRow : OpenClaim := { program := "ytaahffminoekfaadoor", sum := "22c1e9e34975b50974f5968f88dc4eca22dc7e36319a934c9bcb147561afe45d", func := "syngraph/syngraphlaw05.LamportRecovers", spec := "lamportRecovers", unfollowed := true, recurses := true, named := ["syngraph/sha.begin", "syngraph/sha.table"], apart := false, laid := [("syngraph/sha.begin", laid_syngraph_sha_begin), ("syngraph/sha.table", laid_syngraph_sha_table)] }
def LamportRecoversSaid : Prop := lamportRecoversRow.holds Tryd.pinned (OpenSpec.ofChange lamportRecoversSpec)

/-- ITS FALSE NEIGHBOUR: 'it returns false'. Refute it at one input. -/
def lamportRecoversWrong : ChangeSpec := { name := "lamportRecovers", fn := fun _ => fun
  | [d1, d2] => { results := [.lit (.bool false)], args := [d1, d2] }
  | _ => none }
def LamportRecoversWrongFalsely : Prop := lamportRecoversRow.holds Tryd.pinned (OpenSpec.ofChange lamportRecoversWrong)

/-- 'syngraphlaw02.TagSecrets': WHATEVER THE INPUT: true; the input reads as it did. -/
def tagSecretsSpec : ChangeSpec := { name := "tagSecrets", fn := fun _ => fun
  | [d1, d2, d3] => { results := [.lit (.bool true)], args := [d1, d2, d3] }
  | _ => none }
def tagSecretsRow : OpenClaim := { program := "ytaahffminoekfaadoor", sum := "22c1e9e34975b50974f5968f88dc4eca22dc7e36319a934c9bcb147561afe45d", func := "syngraph/syngraphlaw02.TagSecrets", spec := "tagSecrets", unfollowed := true, recurses := true, named := ["syngraph/sha.begin", "syngraph/sha.table"], apart := false, laid := [("syngraph/sha.begin", laid_syngraph_sha_begin), ("syngraph/sha.table", laid_syngraph_sha_table)] }
def TagSecretsSaid : Prop := tagSecretsRow.holds Tryd.pinned (OpenSpec.ofChange tagSecretsSpec)

/-- ITS FALSE NEIGHBOUR: 'it returns false'. Refute it at one input. -/
def tagSecretsWrong : ChangeSpec := { name := "tagSecrets", fn := fun _ => fun
  | [d1, d2, d3] => { results := [.lit (.bool false)], args := [d1, d2, d3] }
  | _ => none }
def TagSecretsWrongFalsely : Prop := tagSecretsRow.holds Tryd.pinned (OpenSpec.ofChange tagSecretsWrong)

/-- 'syngraphlaw04.WotsSigns': WHATEVER THE INPUT: true; the input reads as it did. -/
def wotsSignsSpec : ChangeSpec := { name := "wotsSigns", fn := fun _ => fun
  | [d1, d2, d3] => { results := [.lit (.bool true)], args := [d1, d2, d3] }
  | _ => none }
def wotsSignsRow : OpenClaim := { program := "ytaahffminoekfaadoor", sum := "22c1e9e34975b50974f5968f88dc4eca22dc7e36319a934c9bcb147561afe45d", func := "syngraph/syngraphlaw04.WotsSigns", spec := "wotsSigns", unfollowed := true, recurses := true, named := ["syngraph/sha.begin", "syngraph/sha.table"], apart := false, laid := [("syngraph/sha.begin", laid_syngraph_sha_begin), ("syngraph/sha.table", laid_syngraph_sha_table)] }
def WotsSignsSaid : Prop := wotsSignsRow.holds Tryd.pinned (OpenSpec.ofChange wotsSignsSpec)

/-- ITS FALSE NEIGHBOUR: 'it returns false'. Refute it at one input. -/
def wotsSignsWrong : ChangeSpec := { name := "wotsSigns", fn := fun _ => fun
  | [d1, d2, d3] => { results := [.lit (.bool false)], args := [d1, d2, d3] }
  | _ => none }
def WotsSignsWrongFalsely : Prop := wotsSignsRow.holds Tryd.pinned (OpenSpec.ofChange wotsSignsWrong)

/-- 'syngraphlaw05.LamportSigns': WHATEVER THE INPUT: true; the input reads as it did. -/
def lamportSignsSpec : ChangeSpec := { name := "lamportSigns", fn := fun _ => fun
  | [d1, d2, d3] => { results := [.lit (.bool true)], args := [d1, d2, d3] }
  | _ => none }
def lamportSignsRow : OpenClaim := { program := "ytaahffminoekfaadoor", sum := "22c1e9e34975b50974f5968f88dc4eca22dc7e36319a934c9bcb147561afe45d", func := "syngraph/syngraphlaw05.LamportSigns", spec := "lamportSigns", unfollowed := true, recurses := true, named := ["syngraph/sha.begin", "syngraph/sha.table"], apart := false, laid := [("syngraph/sha.begin", laid_syngraph_sha_begin), ("syngraph/sha.table", laid_syngraph_sha_table)] }
def LamportSignsSaid : Prop := lamportSignsRow.holds Tryd.pinned (OpenSpec.ofChange lamportSignsSpec)

/-- ITS FALSE NEIGHBOUR: 'it returns false'. Refute it at one input. -/
def lamportSignsWrong : ChangeSpec := { name := "lamportSigns", fn := fun _ => fun
  | [d1, d2, d3] => { results := [.lit (.bool false)], args := [d1, d2, d3] }
  | _ => none }
def LamportSignsWrongFalsely : Prop := lamportSignsRow.holds Tryd.pinned (OpenSpec.ofChange lamportSignsWrong)

/-- 'syngraphlaw04.WotsForges': WHATEVER THE INPUT: true; the input reads as it did. -/
def wotsForgesSpec : ChangeSpec := { name := "wotsForges", fn := fun _ => fun
  | [d1, d2, d3] => { results := [.lit (.bool true)], args := [d1, d2, d3] }
  | _ => none }
def wotsForgesRow : OpenClaim := { program := "ytaahffminoekfaadoor", sum := "22c1e9e34975b50974f5968f88dc4eca22dc7e36319a934c9bcb147561afe45d", func := "syngraph/syngraphlaw04.WotsForges", spec := "wotsForges", unfollowed := true, recurses := true, named := ["syngraph/sha.begin", "syngraph/sha.table"], apart := false, laid := [("syngraph/sha.begin", laid_syngraph_sha_begin), ("syngraph/sha.table", laid_syngraph_sha_table)] }
def WotsForgesSaid : Prop := wotsForgesRow.holds Tryd.pinned (OpenSpec.ofChange wotsForgesSpec)

/-- ITS FALSE NEIGHBOUR: 'it returns false'. Refute it at one input. -/
def wotsForgesWrong : ChangeSpec := { name := "wotsForges", fn := fun _ => fun
  | [d1, d2, d3] => { results := [.lit (.bool false)], args := [d1, d2, d3] }
  | _ => none }
def WotsForgesWrongFalsely : Prop := wotsForgesRow.holds Tryd.pinned (OpenSpec.ofChange wotsForgesWrong)

/- THE SECOND FORM. 'bulk': how many values and letters a reading holds, each counted each time it is reached (what is shared counts as often as it is met; a slice's spare places count too). A statement '..UptoSaid' is the law's where the arguments, and the package variables that the reading takes, are together of bulk at most 1048576: NARROWER than '..Said'. Prove '..Said' where nothing that the law and all that it calls make is longer than what came in: it says more and counts as full. Else prove '..UptoSaid'. A law counts once. -/
mutual
def uptoBulk {H : Type} : DataW H → Nat
  | .lit (.string bytes) => bytes.length + 1
  | .lit _ => 1
  | .nil => 1
  | .ptr d => uptoBulk d + 1
  | .slice elems spare => uptoBulkAll elems + uptoBulkAll spare + 1
  | .agg parts => uptoBulkAll parts + 1
  | .iface _ d => uptoBulk d + 1
  | .map entries => uptoBulkEntries entries + 1
  | .held _ => 1
def uptoBulkAll {H : Type} : List (DataW H) → Nat
  | [] => 0
  | d :: r => uptoBulk d + uptoBulkAll r
def uptoBulkEntries {H : Type} : List (Lit × DataW H) → Nat
  | [] => 0
  | x :: r => uptoBulkEntry x + uptoBulkEntries r
def uptoBulkEntry {H : Type} : Lit × DataW H → Nat
  | (.string bytes, d) => bytes.length + uptoBulk d + 1
  | (_, d) => uptoBulk d + 1
 end
def uptoSmall : (H : Type) → List (DataW H) → Bool := fun _ ds => decide (uptoBulkAll ds ≤ 1048576)
def OpenSpec.upto (s : _root_.Go.ChangeSpec) : _root_.Go.OpenSpec := { _root_.Go.OpenSpec.ofChange s with cond := some uptoSmall }

/-- 'syngraphlaw01.ShaSums', WHERE WHAT IT READS IS OF BULK AT MOST 1048576: true; the input reads as it did. -/
def shaSumsUptoRow : OpenClaim := { program := "ytaahffminoekfaadoor", sum := "22c1e9e34975b50974f5968f88dc4eca22dc7e36319a934c9bcb147561afe45d", func := "syngraph/syngraphlaw01.ShaSums", spec := "shaSums", named := ["syngraph/sha.begin", "syngraph/sha.table"], apart := false, laid := [("syngraph/sha.begin", laid_syngraph_sha_begin), ("syngraph/sha.table", laid_syngraph_sha_table)], narrowed := true }
def ShaSumsUptoSaid : Prop := shaSumsUptoRow.holds Tryd.pinned (OpenSpec.upto shaSumsSpec)

/-- 'syngraphlaw01.ShaParts', WHERE WHAT IT READS IS OF BULK AT MOST 1048576: true; the input reads as it did. -/
def shaPartsUptoRow : OpenClaim := { program := "ytaahffminoekfaadoor", sum := "22c1e9e34975b50974f5968f88dc4eca22dc7e36319a934c9bcb147561afe45d", func := "syngraph/syngraphlaw01.ShaParts", spec := "shaParts", named := ["syngraph/sha.begin", "syngraph/sha.table"], apart := false, laid := [("syngraph/sha.begin", laid_syngraph_sha_begin), ("syngraph/sha.table", laid_syngraph_sha_table)], narrowed := true }
def ShaPartsUptoSaid : Prop := shaPartsUptoRow.holds Tryd.pinned (OpenSpec.upto shaPartsSpec)

/-- 'syngraphlaw01.ShaCopies', WHERE WHAT IT READS IS OF BULK AT MOST 1048576: true; the input reads as it did. -/
def shaCopiesUptoRow : OpenClaim := { program := "ytaahffminoekfaadoor", sum := "22c1e9e34975b50974f5968f88dc4eca22dc7e36319a934c9bcb147561afe45d", func := "syngraph/syngraphlaw01.ShaCopies", spec := "shaCopies", named := ["syngraph/sha.begin", "syngraph/sha.table"], apart := false, laid := [("syngraph/sha.begin", laid_syngraph_sha_begin), ("syngraph/sha.table", laid_syngraph_sha_table)], narrowed := true }
def ShaCopiesUptoSaid : Prop := shaCopiesUptoRow.holds Tryd.pinned (OpenSpec.upto shaCopiesSpec)

/-- 'syngraphlaw01.ShaOrders', WHERE WHAT IT READS IS OF BULK AT MOST 1048576: true; the input reads as it did. -/
def shaOrdersUptoRow : OpenClaim := { program := "ytaahffminoekfaadoor", sum := "22c1e9e34975b50974f5968f88dc4eca22dc7e36319a934c9bcb147561afe45d", func := "syngraph/syngraphlaw01.ShaOrders", spec := "shaOrders", inPlace := ["internal/bytealg.Compare"], named := ["syngraph/sha.begin", "syngraph/sha.table"], apart := false, laid := [("syngraph/sha.begin", laid_syngraph_sha_begin), ("syngraph/sha.table", laid_syngraph_sha_table)], narrowed := true }
def ShaOrdersUptoSaid : Prop := shaOrdersUptoRow.holds Tryd.pinned (OpenSpec.upto shaOrdersSpec)

/-- 'syngraphlaw02.TagBytes', WHERE WHAT IT READS IS OF BULK AT MOST 1048576: true; the input reads as it did. -/
def tagBytesUptoRow : OpenClaim := { program := "ytaahffminoekfaadoor", sum := "22c1e9e34975b50974f5968f88dc4eca22dc7e36319a934c9bcb147561afe45d", func := "syngraph/syngraphlaw02.TagBytes", spec := "tagBytes", named := ["syngraph/sha.begin", "syngraph/sha.table"], apart := false, laid := [("syngraph/sha.begin", laid_syngraph_sha_begin), ("syngraph/sha.table", laid_syngraph_sha_table)], narrowed := true }
def TagBytesUptoSaid : Prop := tagBytesUptoRow.holds Tryd.pinned (OpenSpec.upto tagBytesSpec)

/-- 'syngraphlaw01.ShaTexts', WHERE WHAT IT READS IS OF BULK AT MOST 1048576: true; the input reads as it did. -/
def shaTextsUptoRow : OpenClaim := { program := "ytaahffminoekfaadoor", sum := "22c1e9e34975b50974f5968f88dc4eca22dc7e36319a934c9bcb147561afe45d", func := "syngraph/syngraphlaw01.ShaTexts", spec := "shaTexts", inPlace := ["internal/bytealg.IndexByte"], named := ["syngraph/sha.begin", "syngraph/sha.table"], apart := false, laid := [("syngraph/sha.begin", laid_syngraph_sha_begin), ("syngraph/sha.table", laid_syngraph_sha_table)], narrowed := true }
def ShaTextsUptoSaid : Prop := shaTextsUptoRow.holds Tryd.pinned (OpenSpec.upto shaTextsSpec)

/-- 'syngraphlaw01.ShaParses', WHERE WHAT IT READS IS OF BULK AT MOST 1048576: true; the input reads as it did. -/
def shaParsesUptoRow : OpenClaim := { program := "ytaahffminoekfaadoor", sum := "22c1e9e34975b50974f5968f88dc4eca22dc7e36319a934c9bcb147561afe45d", func := "syngraph/syngraphlaw01.ShaParses", spec := "shaParses", inPlace := ["internal/bytealg.IndexByte"], named := ["syngraph/sha.begin", "syngraph/sha.table"], apart := false, laid := [("syngraph/sha.begin", laid_syngraph_sha_begin), ("syngraph/sha.table", laid_syngraph_sha_table)], narrowed := true }
def ShaParsesUptoSaid : Prop := shaParsesUptoRow.holds Tryd.pinned (OpenSpec.upto shaParsesSpec)

/-- 'syngraphlaw02.TagHashes', WHERE WHAT IT READS IS OF BULK AT MOST 1048576: true; the input reads as it did. -/
def tagHashesUptoRow : OpenClaim := { program := "ytaahffminoekfaadoor", sum := "22c1e9e34975b50974f5968f88dc4eca22dc7e36319a934c9bcb147561afe45d", func := "syngraph/syngraphlaw02.TagHashes", spec := "tagHashes", unfollowed := true, recurses := true, named := ["syngraph/sha.begin", "syngraph/sha.table"], apart := false, laid := [("syngraph/sha.begin", laid_syngraph_sha_begin), ("syngraph/sha.table", laid_syngraph_sha_table)], narrowed := true }
def TagHashesUptoSaid : Prop := tagHashesUptoRow.holds Tryd.pinned (OpenSpec.upto tagHashesSpec)

/-- 'syngraphlaw04.WotsDigits', WHERE WHAT IT READS IS OF BULK AT MOST 1048576: true; the input reads as it did. -/
def wotsDigitsUptoRow : OpenClaim := { program := "ytaahffminoekfaadoor", sum := "22c1e9e34975b50974f5968f88dc4eca22dc7e36319a934c9bcb147561afe45d", func := "syngraph/syngraphlaw04.WotsDigits", spec := "wotsDigits", unfollowed := true, recurses := true, named := ["syngraph/sha.begin", "syngraph/sha.table"], apart := false, laid := [("syngraph/sha.begin", laid_syngraph_sha_begin), ("syngraph/sha.table", laid_syngraph_sha_table)], narrowed := true }
def WotsDigitsUptoSaid : Prop := wotsDigitsUptoRow.holds Tryd.pinned (OpenSpec.upto wotsDigitsSpec)

/-- 'syngraphlaw04.WotsWalks', WHERE WHAT IT READS IS OF BULK AT MOST 1048576: true; the input reads as it did. -/
def wotsWalksUptoRow : OpenClaim := { program := "ytaahffminoekfaadoor", sum := "22c1e9e34975b50974f5968f88dc4eca22dc7e36319a934c9bcb147561afe45d", func := "syngraph/syngraphlaw04.WotsWalks", spec := "wotsWalks", unfollowed := true, recurses := true, named := ["syngraph/sha.begin", "syngraph/sha.table"], apart := false, laid := [("syngraph/sha.begin", laid_syngraph_sha_begin), ("syngraph/sha.table", laid_syngraph_sha_table)], narrowed := true }
def WotsWalksUptoSaid : Prop := wotsWalksUptoRow.holds Tryd.pinned (OpenSpec.upto wotsWalksSpec)

/-- 'syngraphlaw02.TagInputs', WHERE WHAT IT READS IS OF BULK AT MOST 1048576: true; the input reads as it did. -/
def tagInputsUptoRow : OpenClaim := { program := "ytaahffminoekfaadoor", sum := "22c1e9e34975b50974f5968f88dc4eca22dc7e36319a934c9bcb147561afe45d", func := "syngraph/syngraphlaw02.TagInputs", spec := "tagInputs", named := ["syngraph/sha.begin", "syngraph/sha.table"], apart := false, laid := [("syngraph/sha.begin", laid_syngraph_sha_begin), ("syngraph/sha.table", laid_syngraph_sha_table)], narrowed := true }
def TagInputsUptoSaid : Prop := tagInputsUptoRow.holds Tryd.pinned (OpenSpec.upto tagInputsSpec)

/-- 'syngraphlaw05.LamportOthers', WHERE WHAT IT READS IS OF BULK AT MOST 1048576: true; the input reads as it did. -/
def lamportOthersUptoRow : OpenClaim := { program := "ytaahffminoekfaadoor", sum := "22c1e9e34975b50974f5968f88dc4eca22dc7e36319a934c9bcb147561afe45d", func := "syngraph/syngraphlaw05.LamportOthers", spec := "lamportOthers", unfollowed := true, recurses := true, named := ["syngraph/sha.begin", "syngraph/sha.table"], apart := false, laid := [("syngraph/sha.begin", laid_syngraph_sha_begin), ("syngraph/sha.table", laid_syngraph_sha_table)], narrowed := true }
def LamportOthersUptoSaid : Prop := lamportOthersUptoRow.holds Tryd.pinned (OpenSpec.upto lamportOthersSpec)

/-- 'syngraphlaw04.WotsRecovers', WHERE WHAT IT READS IS OF BULK AT MOST 1048576: true; the input reads as it did. -/
def wotsRecoversUptoRow : OpenClaim := { program := "ytaahffminoekfaadoor", sum := "22c1e9e34975b50974f5968f88dc4eca22dc7e36319a934c9bcb147561afe45d", func := "syngraph/syngraphlaw04.WotsRecovers", spec := "wotsRecovers", unfollowed := true, recurses := true, named := ["syngraph/sha.begin", "syngraph/sha.table"], apart := false, laid := [("syngraph/sha.begin", laid_syngraph_sha_begin), ("syngraph/sha.table", laid_syngraph_sha_table)], narrowed := true }
def WotsRecoversUptoSaid : Prop := wotsRecoversUptoRow.holds Tryd.pinned (OpenSpec.upto wotsRecoversSpec)

/-- 'syngraphlaw05.LamportRecovers', WHERE WHAT IT READS IS OF BULK AT MOST 1048576: true; the input reads as it did. -/
def lamportRecoversUptoRow : OpenClaim := { program := "ytaahffminoekfaadoor", sum := "22c1e9e34975b50974f5968f88dc4eca22dc7e36319a934c9bcb147561afe45d", func := "syngraph/syngraphlaw05.LamportRecovers", spec := "lamportRecovers", unfollowed := true, recurses := true, named := ["syngraph/sha.begin", "syngraph/sha.table"], apart := false, laid := [("syngraph/sha.begin", laid_syngraph_sha_begin), ("syngraph/sha.table", laid_syngraph_sha_table)], narrowed := true }
def LamportRecoversUptoSaid : Prop := lamportRecoversUptoRow.holds Tryd.pinned (OpenSpec.upto lamportRecoversSpec)

/-- 'syngraphlaw02.TagSecrets', WHERE WHAT IT READS IS OF BULK AT MOST 1048576: true; the input reads as it did. -/
def tagSecretsUptoRow : OpenClaim := { program := "ytaahffminoekfaadoor", sum := "22c1e9e34975b50974f5968f88dc4eca22dc7e36319a934c9bcb147561afe45d", func := "syngraph/syngraphlaw02.TagSecrets", spec := "tagSecrets", unfollowed := true, recurses := true, named := ["syngraph/sha.begin", "syngraph/sha.table"], apart := false, laid := [("syngraph/sha.begin", laid_syngraph_sha_begin), ("syngraph/sha.table", laid_syngraph_sha_table)], narrowed := true }
def TagSecretsUptoSaid : Prop := tagSecretsUptoRow.holds Tryd.pinned (OpenSpec.upto tagSecretsSpec)

/-- 'syngraphlaw04.WotsSigns', WHERE WHAT IT READS IS OF BULK AT MOST 1048576: true; the input reads as it did. -/
def wotsSignsUptoRow : OpenClaim := { program := "ytaahffminoekfaadoor", sum := "22c1e9e34975b50974f5968f88dc4eca22dc7e36319a934c9bcb147561afe45d", func := "syngraph/syngraphlaw04.WotsSigns", spec := "wotsSigns", unfollowed := true, recurses := true, named := ["syngraph/sha.begin", "syngraph/sha.table"], apart := false, laid := [("syngraph/sha.begin", laid_syngraph_sha_begin), ("syngraph/sha.table", laid_syngraph_sha_table)], narrowed := true }
def WotsSignsUptoSaid : Prop := wotsSignsUptoRow.holds Tryd.pinned (OpenSpec.upto wotsSignsSpec)

/-- 'syngraphlaw05.LamportSigns', WHERE WHAT IT READS IS OF BULK AT MOST 1048576: true; the input reads as it did. -/
def lamportSignsUptoRow : OpenClaim := { program := "ytaahffminoekfaadoor", sum := "22c1e9e34975b50974f5968f88dc4eca22dc7e36319a934c9bcb147561afe45d", func := "syngraph/syngraphlaw05.LamportSigns", spec := "lamportSigns", unfollowed := true, recurses := true, named := ["syngraph/sha.begin", "syngraph/sha.table"], apart := false, laid := [("syngraph/sha.begin", laid_syngraph_sha_begin), ("syngraph/sha.table", laid_syngraph_sha_table)], narrowed := true }
def LamportSignsUptoSaid : Prop := lamportSignsUptoRow.holds Tryd.pinned (OpenSpec.upto lamportSignsSpec)

/-- 'syngraphlaw04.WotsForges', WHERE WHAT IT READS IS OF BULK AT MOST 1048576: true; the input reads as it did. -/
def wotsForgesUptoRow : OpenClaim := { program := "ytaahffminoekfaadoor", sum := "22c1e9e34975b50974f5968f88dc4eca22dc7e36319a934c9bcb147561afe45d", func := "syngraph/syngraphlaw04.WotsForges", spec := "wotsForges", unfollowed := true, recurses := true, named := ["syngraph/sha.begin", "syngraph/sha.table"], apart := false, laid := [("syngraph/sha.begin", laid_syngraph_sha_begin), ("syngraph/sha.table", laid_syngraph_sha_table)], narrowed := true }
def WotsForgesUptoSaid : Prop := wotsForgesUptoRow.holds Tryd.pinned (OpenSpec.upto wotsForgesSpec)

end Rows
end Go.Proofs.YtaahffminoekfaaDoor
