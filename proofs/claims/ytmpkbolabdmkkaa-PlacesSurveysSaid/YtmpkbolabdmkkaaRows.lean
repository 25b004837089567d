/-
  NARROWER THAN 'FOR EVERY INPUT', by the rows' own cells (each row's printed sentence says how): PlacesSurveys: loops · PlacesProves: loops.
  DERIVED. THE GIVEN ROWS OF THIS SEAT. 11 by the template 'for every input the law returns true; each argument reads behind the call as it read before'; 0 by the template 'total and deterministic' (their statements: YtmpkbolabdmkkaaTotals.lean).
  GIVEN WITH THE SEED: the statements are not yours to turn. If you find one false, say at which input.
  Laid BY PROGRAM, IN A SANDBOX (cutbox-rows.mjs): the forced cells as the released guide's own fill.sh prints them over the translation fda8794200bba08e… (all of the seat's roots in one cut). By AI agents, Wed Nov 11 2026. No macro, syntax, notation, axiom, sorry.
-/
import Derived.Test.YtmpkbolabdmkkaaChecked
import GoSem.Claim
import GoSem.ClaimJoined
import GoSem.ClaimMapViews
import Derived.JoinedTies
import Derived.KernelRfl
namespace Go.Proofs.Ytmpkbolabdmkkaa
/- THE CELL 'sum', in the pinned program and in every row, IS THE sha256 OF THE DUMP (.gsa) THAT YtmpkbolabdmkkaaProg.lean LOADS. Nothing in Lean hashes anything: it is a label: what it is worth is what the hold of that sum in a sandbox is worth. -/
noncomputable def Try.pinned : Pinned := { name := "ytmpkbolabdmkkaa", sum := "fda8794200bba08e061088c02f4c3d2b02d5431421d1a90cd400ac2c4d0f885a", checked := Try.checked }
namespace Rows
def none {H : Type} : Left H := { results := [], args := [] }

/-- 'leadlightlaw07.PlacesReasons': WHATEVER THE INPUT: true; the input reads as it did. -/
def placesReasonsSpec : ChangeSpec := { name := "placesReasons", fn := fun _ => fun
  | [d1, d2, d3, d4] => { results := [.lit (.bool true)], args := [d1, d2, d3, d4] }
  | _ => none }
def placesReasonsRow : OpenClaim := { program := "ytmpkbolabdmkkaa", sum := "fda8794200bba08e061088c02f4c3d2b02d5431421d1a90cd400ac2c4d0f885a", func := "leadlight/leadlightlaw07.PlacesReasons", spec := "placesReasons", unfollowed := true, recurses := true, apart := false }
def PlacesReasonsSaid : Prop := placesReasonsRow.holds Try.pinned (OpenSpec.ofChange placesReasonsSpec)

/-- ITS FALSE NEIGHBOUR: 'it returns false'. Refute it at one input. -/
def placesReasonsWrong : ChangeSpec := { name := "placesReasons", fn := fun _ => fun
  | [d1, d2, d3, d4] => { results := [.lit (.bool false)], args := [d1, d2, d3, d4] }
  | _ => none }
def PlacesReasonsWrongFalsely : Prop := placesReasonsRow.holds Try.pinned (OpenSpec.ofChange placesReasonsWrong)

/-- 'leadlightlaw07.PlacesClash': WHATEVER THE INPUT: true; the input reads as it did. -/
def placesClashSpec : ChangeSpec := { name := "placesClash", fn := fun _ => fun
  | [d1, d2, d3] => { results := [.lit (.bool true)], args := [d1, d2, d3] }
  | _ => none }
def placesClashRow : OpenClaim := { program := "ytmpkbolabdmkkaa", sum := "fda8794200bba08e061088c02f4c3d2b02d5431421d1a90cd400ac2c4d0f885a", func := "leadlight/leadlightlaw07.PlacesClash", spec := "placesClash", unfollowed := true, recurses := true, apart := false }
def PlacesClashSaid : Prop := placesClashRow.holds Try.pinned (OpenSpec.ofChange placesClashSpec)

/-- ITS FALSE NEIGHBOUR: 'it returns false'. Refute it at one input. -/
def placesClashWrong : ChangeSpec := { name := "placesClash", fn := fun _ => fun
  | [d1, d2, d3] => { results := [.lit (.bool false)], args := [d1, d2, d3] }
  | _ => none }
def PlacesClashWrongFalsely : Prop := placesClashRow.holds Try.pinned (OpenSpec.ofChange placesClashWrong)

/-- 'leadlightlaw07.PlacesValid': WHATEVER THE INPUT: true; the input reads as it did. -/
def placesValidSpec : ChangeSpec := { name := "placesValid", fn := fun _ => fun
  | [d1, d2] => { results := [.lit (.bool true)], args := [d1, d2] }
  | _ => none }
def placesValidRow : OpenClaim := { program := "ytmpkbolabdmkkaa", sum := "fda8794200bba08e061088c02f4c3d2b02d5431421d1a90cd400ac2c4d0f885a", func := "leadlight/leadlightlaw07.PlacesValid", spec := "placesValid", unfollowed := true, recurses := true, apart := false }
def PlacesValidSaid : Prop := placesValidRow.holds Try.pinned (OpenSpec.ofChange placesValidSpec)

/-- ITS FALSE NEIGHBOUR: 'it returns false'. Refute it at one input. -/
def placesValidWrong : ChangeSpec := { name := "placesValid", fn := fun _ => fun
  | [d1, d2] => { results := [.lit (.bool false)], args := [d1, d2] }
  | _ => none }
def PlacesValidWrongFalsely : Prop := placesValidRow.holds Try.pinned (OpenSpec.ofChange placesValidWrong)

/-- 'leadlightlaw07.PlacesPrunes': WHATEVER THE INPUT: true; the input reads as it did. -/
def placesPrunesSpec : ChangeSpec := { name := "placesPrunes", fn := fun _ => fun
  | [d] => { results := [.lit (.bool true)], args := [d] }
  | _ => none }
def placesPrunesRow : OpenClaim := { program := "ytmpkbolabdmkkaa", sum := "fda8794200bba08e061088c02f4c3d2b02d5431421d1a90cd400ac2c4d0f885a", func := "leadlight/leadlightlaw07.PlacesPrunes", spec := "placesPrunes", unfollowed := true, recurses := true, apart := false }
def PlacesPrunesSaid : Prop := placesPrunesRow.holds Try.pinned (OpenSpec.ofChange placesPrunesSpec)

/-- ITS FALSE NEIGHBOUR: 'it returns false'. Refute it at one input. -/
def placesPrunesWrong : ChangeSpec := { name := "placesPrunes", fn := fun _ => fun
  | [d] => { results := [.lit (.bool false)], args := [d] }
  | _ => none }
def PlacesPrunesWrongFalsely : Prop := placesPrunesRow.holds Try.pinned (OpenSpec.ofChange placesPrunesWrong)

/-- 'leadlightlaw07.PlacesMore': WHATEVER THE INPUT: true; the input reads as it did. -/
def placesMoreSpec : ChangeSpec := { name := "placesMore", fn := fun _ => fun
  | [d1, d2, d3] => { results := [.lit (.bool true)], args := [d1, d2, d3] }
  | _ => none }
def placesMoreRow : OpenClaim := { program := "ytmpkbolabdmkkaa", sum := "fda8794200bba08e061088c02f4c3d2b02d5431421d1a90cd400ac2c4d0f885a", func := "leadlight/leadlightlaw07.PlacesMore", spec := "placesMore", unfollowed := true, recurses := true, apart := false }
def PlacesMoreSaid : Prop := placesMoreRow.holds Try.pinned (OpenSpec.ofChange placesMoreSpec)

/-- ITS FALSE NEIGHBOUR: 'it returns false'. Refute it at one input. -/
def placesMoreWrong : ChangeSpec := { name := "placesMore", fn := fun _ => fun
  | [d1, d2, d3] => { results := [.lit (.bool false)], args := [d1, d2, d3] }
  | _ => none }
def PlacesMoreWrongFalsely : Prop := placesMoreRow.holds Try.pinned (OpenSpec.ofChange placesMoreWrong)

/-- 'leadlightlaw07.PlacesKeeps': WHATEVER THE INPUT: true; the input reads as it did. -/
def placesKeepsSpec : ChangeSpec := { name := "placesKeeps", fn := fun _ => fun
  | [d] => { results := [.lit (.bool true)], args := [d] }
  | _ => none }
def placesKeepsRow : OpenClaim := { program := "ytmpkbolabdmkkaa", sum := "fda8794200bba08e061088c02f4c3d2b02d5431421d1a90cd400ac2c4d0f885a", func := "leadlight/leadlightlaw07.PlacesKeeps", spec := "placesKeeps", unfollowed := true, recurses := true, apart := false }
def PlacesKeepsSaid : Prop := placesKeepsRow.holds Try.pinned (OpenSpec.ofChange placesKeepsSpec)

/-- ITS FALSE NEIGHBOUR: 'it returns false'. Refute it at one input. -/
def placesKeepsWrong : ChangeSpec := { name := "placesKeeps", fn := fun _ => fun
  | [d] => { results := [.lit (.bool false)], args := [d] }
  | _ => none }
def PlacesKeepsWrongFalsely : Prop := placesKeepsRow.holds Try.pinned (OpenSpec.ofChange placesKeepsWrong)

/-- 'leadlightlaw07.PlacesWitness': WHATEVER THE INPUT: true; the input reads as it did. -/
def placesWitnessSpec : ChangeSpec := { name := "placesWitness", fn := fun _ => fun
  | [d1, d2, d3] => { results := [.lit (.bool true)], args := [d1, d2, d3] }
  | _ => none }
def placesWitnessRow : OpenClaim := { program := "ytmpkbolabdmkkaa", sum := "fda8794200bba08e061088c02f4c3d2b02d5431421d1a90cd400ac2c4d0f885a", func := "leadlight/leadlightlaw07.PlacesWitness", spec := "placesWitness", unfollowed := true, recurses := true, apart := false }
def PlacesWitnessSaid : Prop := placesWitnessRow.holds Try.pinned (OpenSpec.ofChange placesWitnessSpec)

/-- ITS FALSE NEIGHBOUR: 'it returns false'. Refute it at one input. -/
def placesWitnessWrong : ChangeSpec := { name := "placesWitness", fn := fun _ => fun
  | [d1, d2, d3] => { results := [.lit (.bool false)], args := [d1, d2, d3] }
  | _ => none }
def PlacesWitnessWrongFalsely : Prop := placesWitnessRow.holds Try.pinned (OpenSpec.ofChange placesWitnessWrong)

/-- 'leadlightlaw07.PlacesLists': WHATEVER THE INPUT: true; the input reads as it did. -/
def placesListsSpec : ChangeSpec := { name := "placesLists", fn := fun _ => fun
  | [d] => { results := [.lit (.bool true)], args := [d] }
  | _ => none }
def placesListsRow : OpenClaim := { program := "ytmpkbolabdmkkaa", sum := "fda8794200bba08e061088c02f4c3d2b02d5431421d1a90cd400ac2c4d0f885a", func := "leadlight/leadlightlaw07.PlacesLists", spec := "placesLists", unfollowed := true, recurses := true, apart := false }
def PlacesListsSaid : Prop := placesListsRow.holds Try.pinned (OpenSpec.ofChange placesListsSpec)

/-- ITS FALSE NEIGHBOUR: 'it returns false'. Refute it at one input. -/
def placesListsWrong : ChangeSpec := { name := "placesLists", fn := fun _ => fun
  | [d] => { results := [.lit (.bool false)], args := [d] }
  | _ => none }
def PlacesListsWrongFalsely : Prop := placesListsRow.holds Try.pinned (OpenSpec.ofChange placesListsWrong)

/-- 'leadlightlaw07.PlacesFills': WHATEVER THE INPUT: true; the input reads as it did. -/
def placesFillsSpec : ChangeSpec := { name := "placesFills", fn := fun _ => fun
  | [d1, d2, d3] => { results := [.lit (.bool true)], args := [d1, d2, d3] }
  | _ => none }
def placesFillsRow : OpenClaim := { program := "ytmpkbolabdmkkaa", sum := "fda8794200bba08e061088c02f4c3d2b02d5431421d1a90cd400ac2c4d0f885a", func := "leadlight/leadlightlaw07.PlacesFills", spec := "placesFills", unfollowed := true, recurses := true, apart := false }
def PlacesFillsSaid : Prop := placesFillsRow.holds Try.pinned (OpenSpec.ofChange placesFillsSpec)

/-- ITS FALSE NEIGHBOUR: 'it returns false'. Refute it at one input. -/
def placesFillsWrong : ChangeSpec := { name := "placesFills", fn := fun _ => fun
  | [d1, d2, d3] => { results := [.lit (.bool false)], args := [d1, d2, d3] }
  | _ => none }
def PlacesFillsWrongFalsely : Prop := placesFillsRow.holds Try.pinned (OpenSpec.ofChange placesFillsWrong)

/-- 'leadlightlaw07.PlacesSurveys': WHATEVER THE INPUT: true; the input reads as it did. -/
def placesSurveysSpec : ChangeSpec := { name := "placesSurveys", fn := fun _ => fun
  | [d1, d2] => { results := [.lit (.bool true)], args := [d1, d2] }
  | _ => none }
def placesSurveysRow : OpenClaim := { program := "ytmpkbolabdmkkaa", sum := "fda8794200bba08e061088c02f4c3d2b02d5431421d1a90cd400ac2c4d0f885a", func := "leadlight/leadlightlaw07.PlacesSurveys", spec := "placesSurveys", unfollowed := true, recurses := true, loops := true, apart := false }
def PlacesSurveysSaid : Prop := placesSurveysRow.holds Try.pinned (OpenSpec.ofChange placesSurveysSpec)

/-- ITS FALSE NEIGHBOUR: 'it returns false'. Refute it at one input. -/
def placesSurveysWrong : ChangeSpec := { name := "placesSurveys", fn := fun _ => fun
  | [d1, d2] => { results := [.lit (.bool false)], args := [d1, d2] }
  | _ => none }
def PlacesSurveysWrongFalsely : Prop := placesSurveysRow.holds Try.pinned (OpenSpec.ofChange placesSurveysWrong)

/-- 'leadlightlaw07.PlacesProves': WHATEVER THE INPUT: true; the input reads as it did. -/
def placesProvesSpec : ChangeSpec := { name := "placesProves", fn := fun _ => fun
  | [d1, d2] => { results := [.lit (.bool true)], args := [d1, d2] }
  | _ => none }
def placesProvesRow : OpenClaim := { program := "ytmpkbolabdmkkaa", sum := "fda8794200bba08e061088c02f4c3d2b02d5431421d1a90cd400ac2c4d0f885a", func := "leadlight/leadlightlaw07.PlacesProves", spec := "placesProves", unfollowed := true, recurses := true, loops := true, apart := false }
def PlacesProvesSaid : Prop := placesProvesRow.holds Try.pinned (OpenSpec.ofChange placesProvesSpec)

/-- ITS FALSE NEIGHBOUR: 'it returns false'. Refute it at one input. -/
def placesProvesWrong : ChangeSpec := { name := "placesProves", fn := fun _ => fun
  | [d1, d2] => { results := [.lit (.bool false)], args := [d1, d2] }
  | _ => none }
def PlacesProvesWrongFalsely : Prop := placesProvesRow.holds Try.pinned (OpenSpec.ofChange placesProvesWrong)

/- THE SECOND FORM. 'bulk': how many values and letters a reading holds, each counted each time it is reached (what is shared counts as often as it is met; a slice's spare places count too). A statement '..UptoSaid' is the law's where the arguments, and the package variables that the reading takes, are together of bulk at most 1048576: NARROWER than '..Said'. Prove '..Said' where nothing that the law and all that it calls make is longer than what came in: it says more and counts as full. Else prove '..UptoSaid'. A law counts once. -/
mutual
def uptoBulk {H : Type} : DataW H → Nat
  | .lit (.string bytes) => bytes.length + 1
  | .lit _ => 1
  | .nil => 1
  | .ptr d => uptoBulk d + 1
  | .slice elems spare => uptoBulkAll elems + uptoBulkAll spare + 1
  | .agg parts => uptoBulkAll parts + 1
  | .iface _ d => uptoBulk d + 1
  | .map entries => uptoBulkEntries entries + 1
  | .held _ => 1
def uptoBulkAll {H : Type} : List (DataW H) → Nat
  | [] => 0
  | d :: r => uptoBulk d + uptoBulkAll r
def uptoBulkEntries {H : Type} : List (Lit × DataW H) → Nat
  | [] => 0
  | x :: r => uptoBulkEntry x + uptoBulkEntries r
def uptoBulkEntry {H : Type} : Lit × DataW H → Nat
  | (.string bytes, d) => bytes.length + uptoBulk d + 1
  | (_, d) => uptoBulk d + 1
 end
def uptoSmall : (H : Type) → List (DataW H) → Bool := fun _ ds => decide (uptoBulkAll ds ≤ 1048576)
def OpenSpec.upto (s : _root_.Go.ChangeSpec) : _root_.Go.OpenSpec := { _root_.Go.OpenSpec.ofChange s with cond := some uptoSmall }

/-- 'leadlightlaw07.PlacesReasons', WHERE WHAT IT READS IS OF BULK AT MOST 1048576: true; the input reads as it did. -/
def placesReasonsUptoRow : OpenClaim := { program := "ytmpkbolabdmkkaa", sum := "fda8794200bba08e061088c02f4c3d2b02d5431421d1a90cd400ac2c4d0f885a", func := "leadlight/leadlightlaw07.PlacesReasons", spec := "placesReasons", unfollowed := true, recurses := true, apart := false, narrowed := true }
def PlacesReasonsUptoSaid : Prop := placesReasonsUptoRow.holds Try.pinned (OpenSpec.upto placesReasonsSpec)

/-- 'leadlightlaw07.PlacesClash', WHERE WHAT IT READS IS OF BULK AT MOST 1048576: true; the input reads as it did. -/
def placesClashUptoRow : OpenClaim := { program := "ytmpkbolabdmkkaa", sum := "fda8794200bba08e061088c02f4c3d2b02d5431421d1a90cd400ac2c4d0f885a", func := "leadlight/leadlightlaw07.PlacesClash", spec := "placesClash", unfollowed := true, recurses := true, apart := false, narrowed := true }
def PlacesClashUptoSaid : Prop := placesClashUptoRow.holds Try.pinned (OpenSpec.upto placesClashSpec)

/-- 'leadlightlaw07.PlacesValid', WHERE WHAT IT READS IS OF BULK AT MOST 1048576: true; the input reads as it did. -/
def placesValidUptoRow : OpenClaim := { program := "ytmpkbolabdmkkaa", sum := "fda8794200bba08e061088c02f4c3d2b02d5431421d1a90cd400ac2c4d0f885a", func := "leadlight/leadlightlaw07.PlacesValid", spec := "placesValid", unfollowed := true, recurses := true, apart := false, narrowed := true }
def PlacesValidUptoSaid : Prop := placesValidUptoRow.holds Try.pinned (OpenSpec.upto placesValidSpec)

/-- 'leadlightlaw07.PlacesPrunes', WHERE WHAT IT READS IS OF BULK AT MOST 1048576: true; the input reads as it did. -/
def placesPrunesUptoRow : OpenClaim := { program := "ytmpkbolabdmkkaa", sum := "fda8794200bba08e061088c02f4c3d2b02d5431421d1a90cd400ac2c4d0f885a", func := "leadlight/leadlightlaw07.PlacesPrunes", spec := "placesPrunes", unfollowed := true, recurses := true, apart := false, narrowed := true }
def PlacesPrunesUptoSaid : Prop := placesPrunesUptoRow.holds Try.pinned (OpenSpec.upto placesPrunesSpec)

/-- 'leadlightlaw07.PlacesMore', WHERE WHAT IT READS IS OF BULK AT MOST 1048576: true; the input reads as it did. -/
def placesMoreUptoRow : OpenClaim := { program := "ytmpkbolabdmkkaa", sum := "fda8794200bba08e061088c02f4c3d2b02d5431421d1a90cd400ac2c4d0f885a", func := "leadlight/leadlightlaw07.PlacesMore", spec := "placesMore", unfollowed := true, recurses := true, apart := false, narrowed := true }
def PlacesMoreUptoSaid : Prop := placesMoreUptoRow.holds Try.pinned (OpenSpec.upto placesMoreSpec)

/-- 'leadlightlaw07.PlacesKeeps', WHERE WHAT IT READS IS OF BULK AT MOST 1048576: true; the input reads as it did. -/
def placesKeepsUptoRow : OpenClaim := { program := "ytmpkbolabdmkkaa", sum := "fda8794200bba08e061088c02f4c3d2b02d5431421d1a90cd400ac2c4d0f885a", func := "leadlight/leadlightlaw07.PlacesKeeps", spec := "placesKeeps", unfollowed := true, recurses := true, apart := false, narrowed := true }
def PlacesKeepsUptoSaid : Prop := placesKeepsUptoRow.holds Try.pinned (OpenSpec.upto placesKeepsSpec)

/-- 'leadlightlaw07.PlacesWitness', WHERE WHAT IT READS IS OF BULK AT MOST 1048576: true; the input reads as it did. -/
def placesWitnessUptoRow : OpenClaim := { program := "ytmpkbolabdmkkaa", sum := "fda8794200bba08e061088c02f4c3d2b02d5431421d1a90cd400ac2c4d0f885a", func := "leadlight/leadlightlaw07.PlacesWitness", spec := "placesWitness", unfollowed := true, recurses := true, apart := false, narrowed := true }
def PlacesWitnessUptoSaid : Prop := placesWitnessUptoRow.holds Try.pinned (OpenSpec.upto placesWitnessSpec)

/-- 'leadlightlaw07.PlacesLists', WHERE WHAT IT READS IS OF BULK AT MOST 1048576: true; the input reads as it did. -/
def placesListsUptoRow : OpenClaim := { program := "ytmpkbolabdmkkaa", sum := "fda8794200bba08e061088c02f4c3d2b02d5431421d1a90cd400ac2c4d0f885a", func := "leadlight/leadlightlaw07.PlacesLists", spec := "placesLists", unfollowed := true, recurses := true, apart := false, narrowed := true }
def PlacesListsUptoSaid : Prop := placesListsUptoRow.holds Try.pinned (OpenSpec.upto placesListsSpec)

/-- 'leadlightlaw07.PlacesFills', WHERE WHAT IT READS IS OF BULK AT MOST 1048576: true; the input reads as it did. -/
def placesFillsUptoRow : OpenClaim := { program := "ytmpkbolabdmkkaa", sum := "fda8794200bba08e061088c02f4c3d2b02d5431421d1a90cd400ac2c4d0f885a", func := "leadlight/leadlightlaw07.PlacesFills", spec := "placesFills", unfollowed := true, recurses := true, apart := false, narrowed := true }
def PlacesFillsUptoSaid : Prop := placesFillsUptoRow.holds Try.pinned (OpenSpec.upto placesFillsSpec)

/-- 'leadlightlaw07.PlacesSurveys', WHERE WHAT IT READS IS OF BULK AT MOST 1048576: true; the input reads as it did. -/
def placesSurveysUptoRow : OpenClaim := { program := "ytmpkbolabdmkkaa", sum := "fda8794200bba08e061088c02f4c3d2b02d5431421d1a90cd400ac2c4d0f885a", func := "leadlight/leadlightlaw07.PlacesSurveys", spec := "placesSurveys", unfollowed := true, recurses := true, loops := true, apart := false, narrowed := true }
def PlacesSurveysUptoSaid : Prop := placesSurveysUptoRow.holds Try.pinned (OpenSpec.upto placesSurveysSpec)

/-- 'leadlightlaw07.PlacesProves', WHERE WHAT IT READS IS OF BULK AT MOST 1048576: true; the input reads as it did. -/
def placesProvesUptoRow : OpenClaim := { program := "ytmpkbolabdmkkaa", sum := "fda8794200bba08e061088c02f4c3d2b02d5431421d1a90cd400ac2c4d0f885a", func := "leadlight/leadlightlaw07.PlacesProves", spec := "placesProves", unfollowed := true, recurses := true, loops := true, apart := false, narrowed := true }
def PlacesProvesUptoSaid : Prop := placesProvesUptoRow.holds Try.pinned (OpenSpec.upto placesProvesSpec)

end Rows
end Go.Proofs.Ytmpkbolabdmkkaa
