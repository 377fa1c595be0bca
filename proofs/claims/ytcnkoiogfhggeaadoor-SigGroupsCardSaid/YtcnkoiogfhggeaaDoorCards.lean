/-
  DERIVED. GIVEN WITH THE SEED: THE CARDS: each row of YtcnkoiogfhggeaaDoorRows.lean that lists a variable, with what it lists TIED to the program's text (the seventh form; the later family's looks); each row that meets fmt, with fmt's text TOLD by the authors' own Lean function (tested against real Go, not proved from fmt's source: count such statements apart). THE CARD IS WHAT COUNTS. Prove the row's statement (the work); the ties are given (YtcnkoiogfhggeaaDoorTie.lean); close each card by the builder's one call (the guide's Derived/Test/ToyasCard.lean, 'card_holds'). Laid BY PROGRAM, IN A SANDBOX (cutbox-door.mjs). By AI agents, Wed Nov 11 2026. No macro, syntax, notation, axiom, sorry.
-/
import Derived.Test.YtcnkoiogfhggeaaDoorRows
import GoSem.ClaimSeven
namespace Go.Proofs.YtcnkoiogfhggeaaDoor
namespace Rows

/-- THE TIED CARD OF 'carousellaw02.SigHolds'. -/
def sigHoldsCard : Claim7 := { stood := { row := sigHoldsRow, standIns := [], harness := (true, "c311e1fb3b1de73093525a248050579826f2951de6ce3d360452b90102495dae"), looks := false }, kinds := [], alts := [], laidByText := true, laidKinds := [.data], laidTests := true, laidLooks := .later }
def SigHoldsCardSaid : Prop := Claim7.holds Tryd.pinned (.plain (OpenSpec.ofChange sigHoldsSpec)) sigHoldsCard

/-- THE TIED CARD OF 'carousellaw02.SigBits'. -/
def sigBitsCard : Claim7 := { stood := { row := sigBitsRow, standIns := [], harness := (true, "c311e1fb3b1de73093525a248050579826f2951de6ce3d360452b90102495dae"), looks := false }, kinds := [], alts := [], laidByText := true, laidKinds := [.data], laidTests := true, laidLooks := .later }
def SigBitsCardSaid : Prop := Claim7.holds Tryd.pinned (.plain (OpenSpec.ofChange sigBitsSpec)) sigBitsCard

/-- THE TIED CARD OF 'carousellaw02.SigJoins'. -/
def sigJoinsCard : Claim7 := { stood := { row := sigJoinsRow, standIns := [], harness := (true, "c311e1fb3b1de73093525a248050579826f2951de6ce3d360452b90102495dae"), looks := false }, kinds := [], alts := [], laidByText := true, laidKinds := [.data], laidTests := true, laidLooks := .later }
def SigJoinsCardSaid : Prop := Claim7.holds Tryd.pinned (.plain (OpenSpec.ofChange sigJoinsSpec)) sigJoinsCard

/-- THE TIED CARD OF 'carousellaw02.SigGroups'. -/
def sigGroupsCard : Claim7 := { stood := { row := sigGroupsRow, standIns := [], harness := (true, "c311e1fb3b1de73093525a248050579826f2951de6ce3d360452b90102495dae"), looks := false }, kinds := [], alts := [], laidByText := true, laidKinds := [.data], laidTests := true, laidLooks := .later }
def SigGroupsCardSaid : Prop := Claim7.holds Tryd.pinned (.plain (OpenSpec.ofChange sigGroupsSpec)) sigGroupsCard

/-- THE TIED CARD OF 'carousellaw02.SigCovers'. -/
def sigCoversCard : Claim7 := { stood := { row := sigCoversRow, standIns := [], harness := (true, "c311e1fb3b1de73093525a248050579826f2951de6ce3d360452b90102495dae"), looks := false }, kinds := [], alts := [], laidByText := true, laidKinds := [.data], laidTests := true, laidLooks := .later }
def SigCoversCardSaid : Prop := Claim7.holds Tryd.pinned (.plain (OpenSpec.ofChange sigCoversSpec)) sigCoversCard

/-- THE TIED CARD OF 'carousellaw02.SigTexts'. -/
def sigTextsCard : Claim7 := { stood := { row := sigTextsRow, standIns := [], harness := (true, "c311e1fb3b1de73093525a248050579826f2951de6ce3d360452b90102495dae"), looks := false }, kinds := [], alts := [], laidByText := true, laidKinds := [.data], laidTests := true, laidLooks := .later }
def SigTextsCardSaid : Prop := Claim7.holds Tryd.pinned (.plain (OpenSpec.ofChange sigTextsSpec)) sigTextsCard

/-- THE TIED CARD OF 'carousellaw02.SigLaws'. -/
def sigLawsCard : Claim7 := { stood := { row := sigLawsRow, standIns := [], harness := (true, "c311e1fb3b1de73093525a248050579826f2951de6ce3d360452b90102495dae"), looks := false }, kinds := [], alts := [], laidByText := true, laidKinds := [.data], laidTests := true, laidLooks := .later }
def SigLawsCardSaid : Prop := Claim7.holds Tryd.pinned (.plain (OpenSpec.ofChange sigLawsSpec)) sigLawsCard

/-- THE SECOND FORM's CARD OF 'carousellaw02.SigHolds'. -/
def sigHoldsUptoCard : Claim7 := { stood := { row := sigHoldsUptoRow, standIns := [], harness := (true, "c311e1fb3b1de73093525a248050579826f2951de6ce3d360452b90102495dae"), looks := false }, kinds := [], alts := [], laidByText := true, laidKinds := [.data], laidTests := true, laidLooks := .later }
def SigHoldsUptoCardSaid : Prop := Claim7.holds Tryd.pinned (.plain (OpenSpec.upto sigHoldsSpec)) sigHoldsUptoCard

/-- THE SECOND FORM's CARD OF 'carousellaw02.SigBits'. -/
def sigBitsUptoCard : Claim7 := { stood := { row := sigBitsUptoRow, standIns := [], harness := (true, "c311e1fb3b1de73093525a248050579826f2951de6ce3d360452b90102495dae"), looks := false }, kinds := [], alts := [], laidByText := true, laidKinds := [.data], laidTests := true, laidLooks := .later }
def SigBitsUptoCardSaid : Prop := Claim7.holds Tryd.pinned (.plain (OpenSpec.upto sigBitsSpec)) sigBitsUptoCard

/-- THE SECOND FORM's CARD OF 'carousellaw02.SigJoins'. -/
def sigJoinsUptoCard : Claim7 := { stood := { row := sigJoinsUptoRow, standIns := [], harness := (true, "c311e1fb3b1de73093525a248050579826f2951de6ce3d360452b90102495dae"), looks := false }, kinds := [], alts := [], laidByText := true, laidKinds := [.data], laidTests := true, laidLooks := .later }
def SigJoinsUptoCardSaid : Prop := Claim7.holds Tryd.pinned (.plain (OpenSpec.upto sigJoinsSpec)) sigJoinsUptoCard

/-- THE SECOND FORM's CARD OF 'carousellaw02.SigGroups'. -/
def sigGroupsUptoCard : Claim7 := { stood := { row := sigGroupsUptoRow, standIns := [], harness := (true, "c311e1fb3b1de73093525a248050579826f2951de6ce3d360452b90102495dae"), looks := false }, kinds := [], alts := [], laidByText := true, laidKinds := [.data], laidTests := true, laidLooks := .later }
def SigGroupsUptoCardSaid : Prop := Claim7.holds Tryd.pinned (.plain (OpenSpec.upto sigGroupsSpec)) sigGroupsUptoCard

/-- THE SECOND FORM's CARD OF 'carousellaw02.SigCovers'. -/
def sigCoversUptoCard : Claim7 := { stood := { row := sigCoversUptoRow, standIns := [], harness := (true, "c311e1fb3b1de73093525a248050579826f2951de6ce3d360452b90102495dae"), looks := false }, kinds := [], alts := [], laidByText := true, laidKinds := [.data], laidTests := true, laidLooks := .later }
def SigCoversUptoCardSaid : Prop := Claim7.holds Tryd.pinned (.plain (OpenSpec.upto sigCoversSpec)) sigCoversUptoCard

/-- THE SECOND FORM's CARD OF 'carousellaw02.SigTexts'. -/
def sigTextsUptoCard : Claim7 := { stood := { row := sigTextsUptoRow, standIns := [], harness := (true, "c311e1fb3b1de73093525a248050579826f2951de6ce3d360452b90102495dae"), looks := false }, kinds := [], alts := [], laidByText := true, laidKinds := [.data], laidTests := true, laidLooks := .later }
def SigTextsUptoCardSaid : Prop := Claim7.holds Tryd.pinned (.plain (OpenSpec.upto sigTextsSpec)) sigTextsUptoCard

/-- THE SECOND FORM's CARD OF 'carousellaw02.SigLaws'. -/
def sigLawsUptoCard : Claim7 := { stood := { row := sigLawsUptoRow, standIns := [], harness := (true, "c311e1fb3b1de73093525a248050579826f2951de6ce3d360452b90102495dae"), looks := false }, kinds := [], alts := [], laidByText := true, laidKinds := [.data], laidTests := true, laidLooks := .later }
def SigLawsUptoCardSaid : Prop := Claim7.holds Tryd.pinned (.plain (OpenSpec.upto sigLawsSpec)) sigLawsUptoCard
end Rows
end Go.Proofs.YtcnkoiogfhggeaaDoor
