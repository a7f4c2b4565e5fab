/-
  DERIVED. GIVEN WITH THE SEED: THE CARDS: each row of YtfilokdleehklaaDoorRows.lean that lists a variable, with what it lists TIED to the program's text (the seventh form; the later family's looks); each row that meets fmt, with fmt's text TOLD by the authors' own Lean function (tested against real Go, not proved from fmt's source: count such statements apart). THE CARD IS WHAT COUNTS. Prove the row's statement (the work); the ties are given (YtfilokdleehklaaDoorTie.lean); close each card by the builder's one call (the guide's Derived/Test/ToyasCard.lean, 'card_holds'). Laid BY PROGRAM, IN A SANDBOX (cutbox-door.mjs). By AI agents, Wed Nov 11 2026. No macro, syntax, notation, axiom, sorry.
-/
import Derived.Test.YtfilokdleehklaaDoorRows
import GoSem.ClaimSeven
namespace Go.Proofs.YtfilokdleehklaaDoor
namespace Rows

/-- THE TIED CARD OF 'replevinlaw02.Sha256Joins'. -/
def sha256JoinsCard : Claim7 := { stood := { row := sha256JoinsRow, standIns := [], harness := (true, "5664a7b7a3a15e9a913345b4554bfc2768743fc38b0dbaec13487459a17bd4cf"), looks := false }, kinds := [], alts := [], laidByText := true, laidKinds := [.data, .data], laidTests := true, laidLooks := .later }
def Sha256JoinsCardSaid : Prop := Claim7.holds Tryd.pinned (.plain (OpenSpec.ofChange sha256JoinsSpec)) sha256JoinsCard

/-- THE TIED CARD OF 'replevinlaw02.Sha256Parses'. -/
def sha256ParsesCard : Claim7 := { stood := { row := sha256ParsesRow, standIns := [], harness := (true, "5664a7b7a3a15e9a913345b4554bfc2768743fc38b0dbaec13487459a17bd4cf"), looks := false }, kinds := [], alts := [], laidByText := true, laidKinds := [.data, .data], laidTests := true, laidLooks := .later }
def Sha256ParsesCardSaid : Prop := Claim7.holds Tryd.pinned (.plain (OpenSpec.ofChange sha256ParsesSpec)) sha256ParsesCard

/-- THE TIED CARD OF 'replevinlaw02.Sha256Texts'. -/
def sha256TextsCard : Claim7 := { stood := { row := sha256TextsRow, standIns := [], harness := (true, "5664a7b7a3a15e9a913345b4554bfc2768743fc38b0dbaec13487459a17bd4cf"), looks := false }, kinds := [], alts := [], laidByText := true, laidKinds := [.data, .data], laidTests := true, laidLooks := .later }
def Sha256TextsCardSaid : Prop := Claim7.holds Tryd.pinned (.plain (OpenSpec.ofChange sha256TextsSpec)) sha256TextsCard

/-- THE TIED CARD OF 'replevinlaw02.Sha256Clones'. -/
def sha256ClonesCard : Claim7 := { stood := { row := sha256ClonesRow, standIns := [], harness := (true, "5664a7b7a3a15e9a913345b4554bfc2768743fc38b0dbaec13487459a17bd4cf"), looks := false }, kinds := [], alts := [], laidByText := true, laidKinds := [.data, .data], laidTests := true, laidLooks := .later }
def Sha256ClonesCardSaid : Prop := Claim7.holds Tryd.pinned (.plain (OpenSpec.ofChange sha256ClonesSpec)) sha256ClonesCard

/-- THE TIED CARD OF 'replevinlaw10.FrameDecodes'. -/
def frameDecodesCard : Claim7 := { stood := { row := frameDecodesRow, standIns := [], harness := (true, "5664a7b7a3a15e9a913345b4554bfc2768743fc38b0dbaec13487459a17bd4cf"), looks := false }, kinds := [], alts := [], laidByText := true, laidKinds := [.data, .data, .data], laidTests := true, laidLooks := .later }
def FrameDecodesCardSaid : Prop := Claim7.holds Tryd.pinned (.plain (OpenSpec.ofChange frameDecodesSpec)) frameDecodesCard

/-- THE TIED CARD OF 'replevinlaw10.FrameHeaders'. -/
def frameHeadersCard : Claim7 := { stood := { row := frameHeadersRow, standIns := [], harness := (true, "5664a7b7a3a15e9a913345b4554bfc2768743fc38b0dbaec13487459a17bd4cf"), looks := false }, kinds := [], alts := [], laidByText := true, laidKinds := [.data, .data, .data], laidTests := true, laidLooks := .later }
def FrameHeadersCardSaid : Prop := Claim7.holds Tryd.pinned (.plain (OpenSpec.ofChange frameHeadersSpec)) frameHeadersCard

/-- THE TIED CARD OF 'replevinlaw10.FramePrefixes'. -/
def framePrefixesCard : Claim7 := { stood := { row := framePrefixesRow, standIns := [], harness := (true, "5664a7b7a3a15e9a913345b4554bfc2768743fc38b0dbaec13487459a17bd4cf"), looks := false }, kinds := [], alts := [], laidByText := true, laidKinds := [.data, .data, .data], laidTests := true, laidLooks := .later }
def FramePrefixesCardSaid : Prop := Claim7.holds Tryd.pinned (.plain (OpenSpec.ofChange framePrefixesSpec)) framePrefixesCard

/-- THE TIED CARD OF 'replevinlaw10.FrameTampering'. -/
def frameTamperingCard : Claim7 := { stood := { row := frameTamperingRow, standIns := [], harness := (true, "5664a7b7a3a15e9a913345b4554bfc2768743fc38b0dbaec13487459a17bd4cf"), looks := false }, kinds := [], alts := [], laidByText := true, laidKinds := [.data, .data, .data], laidTests := true, laidLooks := .later }
def FrameTamperingCardSaid : Prop := Claim7.holds Tryd.pinned (.plain (OpenSpec.ofChange frameTamperingSpec)) frameTamperingCard

/-- THE TIED CARD OF 'replevinlaw10.FrameEncodes'. -/
def frameEncodesCard : Claim7 := { stood := { row := frameEncodesRow, standIns := [], harness := (true, "5664a7b7a3a15e9a913345b4554bfc2768743fc38b0dbaec13487459a17bd4cf"), looks := false }, kinds := [], alts := [], laidByText := true, laidKinds := [.data, .data, .data], laidTests := true, laidLooks := .later }
def FrameEncodesCardSaid : Prop := Claim7.holds Tryd.pinned (.plain (OpenSpec.ofChange frameEncodesSpec)) frameEncodesCard

/-- THE TIED CARD OF 'replevinlaw10.FrameSizes'. -/
def frameSizesCard : Claim7 := { stood := { row := frameSizesRow, standIns := [], harness := (true, "5664a7b7a3a15e9a913345b4554bfc2768743fc38b0dbaec13487459a17bd4cf"), looks := false }, kinds := [], alts := [], laidByText := true, laidKinds := [.data, .data, .data], laidTests := true, laidLooks := .later }
def FrameSizesCardSaid : Prop := Claim7.holds Tryd.pinned (.plain (OpenSpec.ofChange frameSizesSpec)) frameSizesCard

/-- THE TIED CARD OF 'replevinlaw10.FrameSalvages'. -/
def frameSalvagesCard : Claim7 := { stood := { row := frameSalvagesRow, standIns := [], harness := (true, "5664a7b7a3a15e9a913345b4554bfc2768743fc38b0dbaec13487459a17bd4cf"), looks := false }, kinds := [], alts := [], laidByText := true, laidKinds := [.data, .data, .data], laidTests := true, laidLooks := .later }
def FrameSalvagesCardSaid : Prop := Claim7.holds Tryd.pinned (.plain (OpenSpec.ofChange frameSalvagesSpec)) frameSalvagesCard

/-- THE TIED CARD OF 'replevinlaw10.FrameScans'. -/
def frameScansCard : Claim7 := { stood := { row := frameScansRow, standIns := [], harness := (true, "5664a7b7a3a15e9a913345b4554bfc2768743fc38b0dbaec13487459a17bd4cf"), looks := false }, kinds := [], alts := [], laidByText := true, laidKinds := [.data, .data, .data], laidTests := true, laidLooks := .later }
def FrameScansCardSaid : Prop := Claim7.holds Tryd.pinned (.plain (OpenSpec.ofChange frameScansSpec)) frameScansCard

/-- THE TIED CARD OF 'replevinlaw10.FrameReads'. -/
def frameReadsCard : Claim7 := { stood := { row := frameReadsRow, standIns := [], harness := (true, "5664a7b7a3a15e9a913345b4554bfc2768743fc38b0dbaec13487459a17bd4cf"), looks := false }, kinds := [], alts := [], laidByText := true, laidKinds := [.data, .data, .data], laidTests := true, laidLooks := .later }
def FrameReadsCardSaid : Prop := Claim7.holds Tryd.pinned (.plain (OpenSpec.ofChange frameReadsSpec)) frameReadsCard

/-- THE TIED CARD OF 'replevinlaw10.FrameClones'. -/
def frameClonesCard : Claim7 := { stood := { row := frameClonesRow, standIns := [], harness := (true, "5664a7b7a3a15e9a913345b4554bfc2768743fc38b0dbaec13487459a17bd4cf"), looks := false }, kinds := [], alts := [], laidByText := true, laidKinds := [.data, .data, .data], laidTests := true, laidLooks := .later }
def FrameClonesCardSaid : Prop := Claim7.holds Tryd.pinned (.plain (OpenSpec.ofChange frameClonesSpec)) frameClonesCard

/-- THE TIED CARD OF 'replevinlaw11.RingTurns'. -/
def ringTurnsCard : Claim7 := { stood := { row := ringTurnsRow, standIns := [], harness := (true, "5664a7b7a3a15e9a913345b4554bfc2768743fc38b0dbaec13487459a17bd4cf"), looks := false }, kinds := [], alts := [], laidByText := true, laidKinds := [.data, .data, .data], laidTests := true, laidLooks := .later }
def RingTurnsCardSaid : Prop := Claim7.holds Tryd.pinned (.plain (OpenSpec.ofChange ringTurnsSpec)) ringTurnsCard

/-- THE TIED CARD OF 'replevinlaw11.RingOthers'. -/
def ringOthersCard : Claim7 := { stood := { row := ringOthersRow, standIns := [], harness := (true, "5664a7b7a3a15e9a913345b4554bfc2768743fc38b0dbaec13487459a17bd4cf"), looks := false }, kinds := [], alts := [], laidByText := true, laidKinds := [.data, .data, .data], laidTests := true, laidLooks := .later }
def RingOthersCardSaid : Prop := Claim7.holds Tryd.pinned (.plain (OpenSpec.ofChange ringOthersSpec)) ringOthersCard

/-- THE SECOND FORM's CARD OF 'replevinlaw02.Sha256Joins'. -/
def sha256JoinsUptoCard : Claim7 := { stood := { row := sha256JoinsUptoRow, standIns := [], harness := (true, "5664a7b7a3a15e9a913345b4554bfc2768743fc38b0dbaec13487459a17bd4cf"), looks := false }, kinds := [], alts := [], laidByText := true, laidKinds := [.data, .data], laidTests := true, laidLooks := .later }
def Sha256JoinsUptoCardSaid : Prop := Claim7.holds Tryd.pinned (.plain (OpenSpec.upto sha256JoinsSpec)) sha256JoinsUptoCard

/-- THE SECOND FORM's CARD OF 'replevinlaw02.Sha256Parses'. -/
def sha256ParsesUptoCard : Claim7 := { stood := { row := sha256ParsesUptoRow, standIns := [], harness := (true, "5664a7b7a3a15e9a913345b4554bfc2768743fc38b0dbaec13487459a17bd4cf"), looks := false }, kinds := [], alts := [], laidByText := true, laidKinds := [.data, .data], laidTests := true, laidLooks := .later }
def Sha256ParsesUptoCardSaid : Prop := Claim7.holds Tryd.pinned (.plain (OpenSpec.upto sha256ParsesSpec)) sha256ParsesUptoCard

/-- THE SECOND FORM's CARD OF 'replevinlaw02.Sha256Texts'. -/
def sha256TextsUptoCard : Claim7 := { stood := { row := sha256TextsUptoRow, standIns := [], harness := (true, "5664a7b7a3a15e9a913345b4554bfc2768743fc38b0dbaec13487459a17bd4cf"), looks := false }, kinds := [], alts := [], laidByText := true, laidKinds := [.data, .data], laidTests := true, laidLooks := .later }
def Sha256TextsUptoCardSaid : Prop := Claim7.holds Tryd.pinned (.plain (OpenSpec.upto sha256TextsSpec)) sha256TextsUptoCard

/-- THE SECOND FORM's CARD OF 'replevinlaw02.Sha256Clones'. -/
def sha256ClonesUptoCard : Claim7 := { stood := { row := sha256ClonesUptoRow, standIns := [], harness := (true, "5664a7b7a3a15e9a913345b4554bfc2768743fc38b0dbaec13487459a17bd4cf"), looks := false }, kinds := [], alts := [], laidByText := true, laidKinds := [.data, .data], laidTests := true, laidLooks := .later }
def Sha256ClonesUptoCardSaid : Prop := Claim7.holds Tryd.pinned (.plain (OpenSpec.upto sha256ClonesSpec)) sha256ClonesUptoCard

/-- THE SECOND FORM's CARD OF 'replevinlaw10.FrameDecodes'. -/
def frameDecodesUptoCard : Claim7 := { stood := { row := frameDecodesUptoRow, standIns := [], harness := (true, "5664a7b7a3a15e9a913345b4554bfc2768743fc38b0dbaec13487459a17bd4cf"), looks := false }, kinds := [], alts := [], laidByText := true, laidKinds := [.data, .data, .data], laidTests := true, laidLooks := .later }
def FrameDecodesUptoCardSaid : Prop := Claim7.holds Tryd.pinned (.plain (OpenSpec.upto frameDecodesSpec)) frameDecodesUptoCard

/-- THE SECOND FORM's CARD OF 'replevinlaw10.FrameHeaders'. -/
def frameHeadersUptoCard : Claim7 := { stood := { row := frameHeadersUptoRow, standIns := [], harness := (true, "5664a7b7a3a15e9a913345b4554bfc2768743fc38b0dbaec13487459a17bd4cf"), looks := false }, kinds := [], alts := [], laidByText := true, laidKinds := [.data, .data, .data], laidTests := true, laidLooks := .later }
def FrameHeadersUptoCardSaid : Prop := Claim7.holds Tryd.pinned (.plain (OpenSpec.upto frameHeadersSpec)) frameHeadersUptoCard

/-- THE SECOND FORM's CARD OF 'replevinlaw10.FramePrefixes'. -/
def framePrefixesUptoCard : Claim7 := { stood := { row := framePrefixesUptoRow, standIns := [], harness := (true, "5664a7b7a3a15e9a913345b4554bfc2768743fc38b0dbaec13487459a17bd4cf"), looks := false }, kinds := [], alts := [], laidByText := true, laidKinds := [.data, .data, .data], laidTests := true, laidLooks := .later }
def FramePrefixesUptoCardSaid : Prop := Claim7.holds Tryd.pinned (.plain (OpenSpec.upto framePrefixesSpec)) framePrefixesUptoCard

/-- THE SECOND FORM's CARD OF 'replevinlaw10.FrameTampering'. -/
def frameTamperingUptoCard : Claim7 := { stood := { row := frameTamperingUptoRow, standIns := [], harness := (true, "5664a7b7a3a15e9a913345b4554bfc2768743fc38b0dbaec13487459a17bd4cf"), looks := false }, kinds := [], alts := [], laidByText := true, laidKinds := [.data, .data, .data], laidTests := true, laidLooks := .later }
def FrameTamperingUptoCardSaid : Prop := Claim7.holds Tryd.pinned (.plain (OpenSpec.upto frameTamperingSpec)) frameTamperingUptoCard

/-- THE SECOND FORM's CARD OF 'replevinlaw10.FrameEncodes'. -/
def frameEncodesUptoCard : Claim7 := { stood := { row := frameEncodesUptoRow, standIns := [], harness := (true, "5664a7b7a3a15e9a913345b4554bfc2768743fc38b0dbaec13487459a17bd4cf"), looks := false }, kinds := [], alts := [], laidByText := true, laidKinds := [.data, .data, .data], laidTests := true, laidLooks := .later }
def FrameEncodesUptoCardSaid : Prop := Claim7.holds Tryd.pinned (.plain (OpenSpec.upto frameEncodesSpec)) frameEncodesUptoCard

/-- THE SECOND FORM's CARD OF 'replevinlaw10.FrameSizes'. -/
def frameSizesUptoCard : Claim7 := { stood := { row := frameSizesUptoRow, standIns := [], harness := (true, "5664a7b7a3a15e9a913345b4554bfc2768743fc38b0dbaec13487459a17bd4cf"), looks := false }, kinds := [], alts := [], laidByText := true, laidKinds := [.data, .data, .data], laidTests := true, laidLooks := .later }
def FrameSizesUptoCardSaid : Prop := Claim7.holds Tryd.pinned (.plain (OpenSpec.upto frameSizesSpec)) frameSizesUptoCard

/-- THE SECOND FORM's CARD OF 'replevinlaw10.FrameSalvages'. -/
def frameSalvagesUptoCard : Claim7 := { stood := { row := frameSalvagesUptoRow, standIns := [], harness := (true, "5664a7b7a3a15e9a913345b4554bfc2768743fc38b0dbaec13487459a17bd4cf"), looks := false }, kinds := [], alts := [], laidByText := true, laidKinds := [.data, .data, .data], laidTests := true, laidLooks := .later }
def FrameSalvagesUptoCardSaid : Prop := Claim7.holds Tryd.pinned (.plain (OpenSpec.upto frameSalvagesSpec)) frameSalvagesUptoCard

/-- THE SECOND FORM's CARD OF 'replevinlaw10.FrameScans'. -/
def frameScansUptoCard : Claim7 := { stood := { row := frameScansUptoRow, standIns := [], harness := (true, "5664a7b7a3a15e9a913345b4554bfc2768743fc38b0dbaec13487459a17bd4cf"), looks := false }, kinds := [], alts := [], laidByText := true, laidKinds := [.data, .data, .data], laidTests := true, laidLooks := .later }
def FrameScansUptoCardSaid : Prop := Claim7.holds Tryd.pinned (.plain (OpenSpec.upto frameScansSpec)) frameScansUptoCard

/-- THE SECOND FORM's CARD OF 'replevinlaw10.FrameReads'. -/
def frameReadsUptoCard : Claim7 := { stood := { row := frameReadsUptoRow, standIns := [], harness := (true, "5664a7b7a3a15e9a913345b4554bfc2768743fc38b0dbaec13487459a17bd4cf"), looks := false }, kinds := [], alts := [], laidByText := true, laidKinds := [.data, .data, .data], laidTests := true, laidLooks := .later }
def FrameReadsUptoCardSaid : Prop := Claim7.holds Tryd.pinned (.plain (OpenSpec.upto frameReadsSpec)) frameReadsUptoCard

/-- THE SECOND FORM's CARD OF 'replevinlaw10.FrameClones'. -/
def frameClonesUptoCard : Claim7 := { stood := { row := frameClonesUptoRow, standIns := [], harness := (true, "5664a7b7a3a15e9a913345b4554bfc2768743fc38b0dbaec13487459a17bd4cf"), looks := false }, kinds := [], alts := [], laidByText := true, laidKinds := [.data, .data, .data], laidTests := true, laidLooks := .later }
def FrameClonesUptoCardSaid : Prop := Claim7.holds Tryd.pinned (.plain (OpenSpec.upto frameClonesSpec)) frameClonesUptoCard

/-- THE SECOND FORM's CARD OF 'replevinlaw11.RingTurns'. -/
def ringTurnsUptoCard : Claim7 := { stood := { row := ringTurnsUptoRow, standIns := [], harness := (true, "5664a7b7a3a15e9a913345b4554bfc2768743fc38b0dbaec13487459a17bd4cf"), looks := false }, kinds := [], alts := [], laidByText := true, laidKinds := [.data, .data, .data], laidTests := true, laidLooks := .later }
def RingTurnsUptoCardSaid : Prop := Claim7.holds Tryd.pinned (.plain (OpenSpec.upto ringTurnsSpec)) ringTurnsUptoCard

/-- THE SECOND FORM's CARD OF 'replevinlaw11.RingOthers'. -/
def ringOthersUptoCard : Claim7 := { stood := { row := ringOthersUptoRow, standIns := [], harness := (true, "5664a7b7a3a15e9a913345b4554bfc2768743fc38b0dbaec13487459a17bd4cf"), looks := false }, kinds := [], alts := [], laidByText := true, laidKinds := [.data, .data, .data], laidTests := true, laidLooks := .later }
def RingOthersUptoCardSaid : Prop := Claim7.holds Tryd.pinned (.plain (OpenSpec.upto ringOthersSpec)) ringOthersUptoCard
end Rows
end Go.Proofs.YtfilokdleehklaaDoor
