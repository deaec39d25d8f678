/-
  NARROWER THAN 'FOR EVERY INPUT', by the rows' own cells (each row's printed sentence says how): StatColumns: loops · StatMerges: loops · PredMay: loops · PredTerms: loops · FlatRows: loops · FlatBuilds: loops · FlatProjects: loops · FlatCuts: loops.
  DERIVED. THE GIVEN ROWS OF THIS SEAT. 15 by the template 'for every input the law returns true; each argument reads behind the call as it read before'; 0 by the template 'total and deterministic' (their statements: YtgmefkhincnajaaTotals.lean).
  GIVEN WITH THE SEED: the statements are not yours to turn. If you find one false, say at which input.
  Laid BY PROGRAM, IN A SANDBOX (cutbox-rows.mjs): the forced cells as the released guide's own fill.sh prints them over the translation a8870b1f54083134… (all of the seat's roots in one cut). By AI agents, Wed Nov 11 2026. No macro, syntax, notation, axiom, sorry.
-/
import Derived.Test.YtgmefkhincnajaaChecked
import GoSem.Claim
import GoSem.ClaimJoined
import GoSem.ClaimMapViews
import Derived.JoinedTies
import Derived.KernelRfl
namespace Go.Proofs.Ytgmefkhincnajaa
/- THE CELL 'sum', in the pinned program and in every row, IS THE sha256 OF THE DUMP (.gsa) THAT YtgmefkhincnajaaProg.lean LOADS. Nothing in Lean hashes anything: it is a label: what it is worth is what the hold of that sum in a sandbox is worth. -/
noncomputable def Try.pinned : Pinned := { name := "ytgmefkhincnajaa", sum := "a8870b1f540831340bdf286dd238fb918cd5fd81dabe2efe2436388a46277f07", checked := Try.checked }
namespace Rows
def none {H : Type} : Left H := { results := [], args := [] }

/-- 'ingotlaw16.StatColumns': WHATEVER THE INPUT: true; the input reads as it did. -/
def statColumnsSpec : ChangeSpec := { name := "statColumns", fn := fun _ => fun
  | [d1, d2] => { results := [.lit (.bool true)], args := [d1, d2] }
  | _ => none }
def statColumnsRow : OpenClaim := { program := "ytgmefkhincnajaa", sum := "a8870b1f540831340bdf286dd238fb918cd5fd81dabe2efe2436388a46277f07", func := "ingot/ingotlaw16.StatColumns", spec := "statColumns", inPlace := ["internal/bytealg.Compare"], recurses := true, loops := true, apart := false }
def StatColumnsSaid : Prop := statColumnsRow.holds Try.pinned (OpenSpec.ofChange statColumnsSpec)

/-- ITS FALSE NEIGHBOUR: 'it returns false'. Refute it at one input. -/
def statColumnsWrong : ChangeSpec := { name := "statColumns", fn := fun _ => fun
  | [d1, d2] => { results := [.lit (.bool false)], args := [d1, d2] }
  | _ => none }
def StatColumnsWrongFalsely : Prop := statColumnsRow.holds Try.pinned (OpenSpec.ofChange statColumnsWrong)

/-- 'ingotlaw16.StatMerges': WHATEVER THE INPUT: true; the input reads as it did. -/
def statMergesSpec : ChangeSpec := { name := "statMerges", fn := fun _ => fun
  | [d1, d2, d3] => { results := [.lit (.bool true)], args := [d1, d2, d3] }
  | _ => none }
def statMergesRow : OpenClaim := { program := "ytgmefkhincnajaa", sum := "a8870b1f540831340bdf286dd238fb918cd5fd81dabe2efe2436388a46277f07", func := "ingot/ingotlaw16.StatMerges", spec := "statMerges", inPlace := ["internal/bytealg.Compare"], recurses := true, loops := true, apart := false }
def StatMergesSaid : Prop := statMergesRow.holds Try.pinned (OpenSpec.ofChange statMergesSpec)

/-- ITS FALSE NEIGHBOUR: 'it returns false'. Refute it at one input. -/
def statMergesWrong : ChangeSpec := { name := "statMerges", fn := fun _ => fun
  | [d1, d2, d3] => { results := [.lit (.bool false)], args := [d1, d2, d3] }
  | _ => none }
def StatMergesWrongFalsely : Prop := statMergesRow.holds Try.pinned (OpenSpec.ofChange statMergesWrong)

/-- 'ingotlaw16.StatSums': WHATEVER THE INPUT: true; the input reads as it did. -/
def statSumsSpec : ChangeSpec := { name := "statSums", fn := fun _ => fun
  | [d] => { results := [.lit (.bool true)], args := [d] }
  | _ => none }
def statSumsRow : OpenClaim := { program := "ytgmefkhincnajaa", sum := "a8870b1f540831340bdf286dd238fb918cd5fd81dabe2efe2436388a46277f07", func := "ingot/ingotlaw16.StatSums", spec := "statSums", inPlace := ["internal/bytealg.Compare"], recurses := true, apart := false }
def StatSumsSaid : Prop := statSumsRow.holds Try.pinned (OpenSpec.ofChange statSumsSpec)

/-- ITS FALSE NEIGHBOUR: 'it returns false'. Refute it at one input. -/
def statSumsWrong : ChangeSpec := { name := "statSums", fn := fun _ => fun
  | [d] => { results := [.lit (.bool false)], args := [d] }
  | _ => none }
def StatSumsWrongFalsely : Prop := statSumsRow.holds Try.pinned (OpenSpec.ofChange statSumsWrong)

/-- 'ingotlaw16.StatParts': WHATEVER THE INPUT: true; the input reads as it did. -/
def statPartsSpec : ChangeSpec := { name := "statParts", fn := fun _ => fun
  | [d1, d2] => { results := [.lit (.bool true)], args := [d1, d2] }
  | _ => none }
def statPartsRow : OpenClaim := { program := "ytgmefkhincnajaa", sum := "a8870b1f540831340bdf286dd238fb918cd5fd81dabe2efe2436388a46277f07", func := "ingot/ingotlaw16.StatParts", spec := "statParts", inPlace := ["internal/bytealg.Compare"], recurses := true, apart := false }
def StatPartsSaid : Prop := statPartsRow.holds Try.pinned (OpenSpec.ofChange statPartsSpec)

/-- ITS FALSE NEIGHBOUR: 'it returns false'. Refute it at one input. -/
def statPartsWrong : ChangeSpec := { name := "statParts", fn := fun _ => fun
  | [d1, d2] => { results := [.lit (.bool false)], args := [d1, d2] }
  | _ => none }
def StatPartsWrongFalsely : Prop := statPartsRow.holds Try.pinned (OpenSpec.ofChange statPartsWrong)

/-- 'ingotlaw25.PredMay': WHATEVER THE INPUT: true; the input reads as it did. -/
def predMaySpec : ChangeSpec := { name := "predMay", fn := fun _ => fun
  | [d1, d2, d3] => { results := [.lit (.bool true)], args := [d1, d2, d3] }
  | _ => none }
def predMayRow : OpenClaim := { program := "ytgmefkhincnajaa", sum := "a8870b1f540831340bdf286dd238fb918cd5fd81dabe2efe2436388a46277f07", func := "ingot/ingotlaw25.PredMay", spec := "predMay", inPlace := ["internal/bytealg.Compare"], recurses := true, loops := true, apart := false }
def PredMaySaid : Prop := predMayRow.holds Try.pinned (OpenSpec.ofChange predMaySpec)

/-- ITS FALSE NEIGHBOUR: 'it returns false'. Refute it at one input. -/
def predMayWrong : ChangeSpec := { name := "predMay", fn := fun _ => fun
  | [d1, d2, d3] => { results := [.lit (.bool false)], args := [d1, d2, d3] }
  | _ => none }
def PredMayWrongFalsely : Prop := predMayRow.holds Try.pinned (OpenSpec.ofChange predMayWrong)

/-- 'ingotlaw25.PredTerms': WHATEVER THE INPUT: true; the input reads as it did. -/
def predTermsSpec : ChangeSpec := { name := "predTerms", fn := fun _ => fun
  | [d1, d2, d3] => { results := [.lit (.bool true)], args := [d1, d2, d3] }
  | _ => none }
def predTermsRow : OpenClaim := { program := "ytgmefkhincnajaa", sum := "a8870b1f540831340bdf286dd238fb918cd5fd81dabe2efe2436388a46277f07", func := "ingot/ingotlaw25.PredTerms", spec := "predTerms", inPlace := ["internal/bytealg.Compare"], recurses := true, loops := true, apart := false }
def PredTermsSaid : Prop := predTermsRow.holds Try.pinned (OpenSpec.ofChange predTermsSpec)

/-- ITS FALSE NEIGHBOUR: 'it returns false'. Refute it at one input. -/
def predTermsWrong : ChangeSpec := { name := "predTerms", fn := fun _ => fun
  | [d1, d2, d3] => { results := [.lit (.bool false)], args := [d1, d2, d3] }
  | _ => none }
def PredTermsWrongFalsely : Prop := predTermsRow.holds Try.pinned (OpenSpec.ofChange predTermsWrong)

/-- 'ingotlaw25.PredNumbers': WHATEVER THE INPUT: true; the input reads as it did. -/
def predNumbersSpec : ChangeSpec := { name := "predNumbers", fn := fun _ => fun
  | [d1, d2, d3, d4, d5] => { results := [.lit (.bool true)], args := [d1, d2, d3, d4, d5] }
  | _ => none }
def predNumbersRow : OpenClaim := { program := "ytgmefkhincnajaa", sum := "a8870b1f540831340bdf286dd238fb918cd5fd81dabe2efe2436388a46277f07", func := "ingot/ingotlaw25.PredNumbers", spec := "predNumbers", inPlace := ["internal/bytealg.Compare"], recurses := true, apart := false }
def PredNumbersSaid : Prop := predNumbersRow.holds Try.pinned (OpenSpec.ofChange predNumbersSpec)

/-- ITS FALSE NEIGHBOUR: 'it returns false'. Refute it at one input. -/
def predNumbersWrong : ChangeSpec := { name := "predNumbers", fn := fun _ => fun
  | [d1, d2, d3, d4, d5] => { results := [.lit (.bool false)], args := [d1, d2, d3, d4, d5] }
  | _ => none }
def PredNumbersWrongFalsely : Prop := predNumbersRow.holds Try.pinned (OpenSpec.ofChange predNumbersWrong)

/-- 'ingotlaw25.PredNulls': WHATEVER THE INPUT: true; the input reads as it did. -/
def predNullsSpec : ChangeSpec := { name := "predNulls", fn := fun _ => fun
  | [d1, d2, d3] => { results := [.lit (.bool true)], args := [d1, d2, d3] }
  | _ => none }
def predNullsRow : OpenClaim := { program := "ytgmefkhincnajaa", sum := "a8870b1f540831340bdf286dd238fb918cd5fd81dabe2efe2436388a46277f07", func := "ingot/ingotlaw25.PredNulls", spec := "predNulls", inPlace := ["internal/bytealg.Compare"], recurses := true, apart := false }
def PredNullsSaid : Prop := predNullsRow.holds Try.pinned (OpenSpec.ofChange predNullsSpec)

/-- ITS FALSE NEIGHBOUR: 'it returns false'. Refute it at one input. -/
def predNullsWrong : ChangeSpec := { name := "predNulls", fn := fun _ => fun
  | [d1, d2, d3] => { results := [.lit (.bool false)], args := [d1, d2, d3] }
  | _ => none }
def PredNullsWrongFalsely : Prop := predNullsRow.holds Try.pinned (OpenSpec.ofChange predNullsWrong)

/-- 'ingotlaw15.FlatRows': WHATEVER THE INPUT: true; the input reads as it did. -/
def flatRowsSpec : ChangeSpec := { name := "flatRows", fn := fun _ => fun
  | [d1, d2] => { results := [.lit (.bool true)], args := [d1, d2] }
  | _ => none }
def flatRowsRow : OpenClaim := { program := "ytgmefkhincnajaa", sum := "a8870b1f540831340bdf286dd238fb918cd5fd81dabe2efe2436388a46277f07", func := "ingot/ingotlaw15.FlatRows", spec := "flatRows", unfollowed := true, recurses := true, loops := true, apart := false }
def FlatRowsSaid : Prop := flatRowsRow.holds Try.pinned (OpenSpec.ofChange flatRowsSpec)

/-- ITS FALSE NEIGHBOUR: 'it returns false'. Refute it at one input. -/
def flatRowsWrong : ChangeSpec := { name := "flatRows", fn := fun _ => fun
  | [d1, d2] => { results := [.lit (.bool false)], args := [d1, d2] }
  | _ => none }
def FlatRowsWrongFalsely : Prop := flatRowsRow.holds Try.pinned (OpenSpec.ofChange flatRowsWrong)

/-- 'ingotlaw15.FlatBuilds': WHATEVER THE INPUT: true; the input reads as it did. -/
def flatBuildsSpec : ChangeSpec := { name := "flatBuilds", fn := fun _ => fun
  | [d1, d2, d3, d4] => { results := [.lit (.bool true)], args := [d1, d2, d3, d4] }
  | _ => none }
def flatBuildsRow : OpenClaim := { program := "ytgmefkhincnajaa", sum := "a8870b1f540831340bdf286dd238fb918cd5fd81dabe2efe2436388a46277f07", func := "ingot/ingotlaw15.FlatBuilds", spec := "flatBuilds", unfollowed := true, recurses := true, loops := true, apart := false }
def FlatBuildsSaid : Prop := flatBuildsRow.holds Try.pinned (OpenSpec.ofChange flatBuildsSpec)

/-- ITS FALSE NEIGHBOUR: 'it returns false'. Refute it at one input. -/
def flatBuildsWrong : ChangeSpec := { name := "flatBuilds", fn := fun _ => fun
  | [d1, d2, d3, d4] => { results := [.lit (.bool false)], args := [d1, d2, d3, d4] }
  | _ => none }
def FlatBuildsWrongFalsely : Prop := flatBuildsRow.holds Try.pinned (OpenSpec.ofChange flatBuildsWrong)

/-- 'ingotlaw15.FlatProjects': WHATEVER THE INPUT: true; the input reads as it did. -/
def flatProjectsSpec : ChangeSpec := { name := "flatProjects", fn := fun _ => fun
  | [d1, d2, d3] => { results := [.lit (.bool true)], args := [d1, d2, d3] }
  | _ => none }
def flatProjectsRow : OpenClaim := { program := "ytgmefkhincnajaa", sum := "a8870b1f540831340bdf286dd238fb918cd5fd81dabe2efe2436388a46277f07", func := "ingot/ingotlaw15.FlatProjects", spec := "flatProjects", unfollowed := true, recurses := true, loops := true, apart := false }
def FlatProjectsSaid : Prop := flatProjectsRow.holds Try.pinned (OpenSpec.ofChange flatProjectsSpec)

/-- ITS FALSE NEIGHBOUR: 'it returns false'. Refute it at one input. -/
def flatProjectsWrong : ChangeSpec := { name := "flatProjects", fn := fun _ => fun
  | [d1, d2, d3] => { results := [.lit (.bool false)], args := [d1, d2, d3] }
  | _ => none }
def FlatProjectsWrongFalsely : Prop := flatProjectsRow.holds Try.pinned (OpenSpec.ofChange flatProjectsWrong)

/-- 'ingotlaw15.FlatCuts': WHATEVER THE INPUT: true; the input reads as it did. -/
def flatCutsSpec : ChangeSpec := { name := "flatCuts", fn := fun _ => fun
  | [d1, d2, d3] => { results := [.lit (.bool true)], args := [d1, d2, d3] }
  | _ => none }
def flatCutsRow : OpenClaim := { program := "ytgmefkhincnajaa", sum := "a8870b1f540831340bdf286dd238fb918cd5fd81dabe2efe2436388a46277f07", func := "ingot/ingotlaw15.FlatCuts", spec := "flatCuts", unfollowed := true, recurses := true, loops := true, apart := false }
def FlatCutsSaid : Prop := flatCutsRow.holds Try.pinned (OpenSpec.ofChange flatCutsSpec)

/-- ITS FALSE NEIGHBOUR: 'it returns false'. Refute it at one input. -/
def flatCutsWrong : ChangeSpec := { name := "flatCuts", fn := fun _ => fun
  | [d1, d2, d3] => { results := [.lit (.bool false)], args := [d1, d2, d3] }
  | _ => none }
def FlatCutsWrongFalsely : Prop := flatCutsRow.holds Try.pinned (OpenSpec.ofChange flatCutsWrong)

/-- 'ingotlaw15.FlatLists': WHATEVER THE INPUT: true; the input reads as it did. -/
def flatListsSpec : ChangeSpec := { name := "flatLists", fn := fun _ => fun
  | [d1, d2] => { results := [.lit (.bool true)], args := [d1, d2] }
  | _ => none }
def flatListsRow : OpenClaim := { program := "ytgmefkhincnajaa", sum := "a8870b1f540831340bdf286dd238fb918cd5fd81dabe2efe2436388a46277f07", func := "ingot/ingotlaw15.FlatLists", spec := "flatLists", unfollowed := true, recurses := true, apart := false }
def FlatListsSaid : Prop := flatListsRow.holds Try.pinned (OpenSpec.ofChange flatListsSpec)

/-- ITS FALSE NEIGHBOUR: 'it returns false'. Refute it at one input. -/
def flatListsWrong : ChangeSpec := { name := "flatLists", fn := fun _ => fun
  | [d1, d2] => { results := [.lit (.bool false)], args := [d1, d2] }
  | _ => none }
def FlatListsWrongFalsely : Prop := flatListsRow.holds Try.pinned (OpenSpec.ofChange flatListsWrong)

/-- 'ingotlaw15.FlatUnions': WHATEVER THE INPUT: true; the input reads as it did. -/
def flatUnionsSpec : ChangeSpec := { name := "flatUnions", fn := fun _ => fun
  | [d1, d2] => { results := [.lit (.bool true)], args := [d1, d2] }
  | _ => none }
def flatUnionsRow : OpenClaim := { program := "ytgmefkhincnajaa", sum := "a8870b1f540831340bdf286dd238fb918cd5fd81dabe2efe2436388a46277f07", func := "ingot/ingotlaw15.FlatUnions", spec := "flatUnions", unfollowed := true, recurses := true, apart := false }
def FlatUnionsSaid : Prop := flatUnionsRow.holds Try.pinned (OpenSpec.ofChange flatUnionsSpec)

/-- ITS FALSE NEIGHBOUR: 'it returns false'. Refute it at one input. -/
def flatUnionsWrong : ChangeSpec := { name := "flatUnions", fn := fun _ => fun
  | [d1, d2] => { results := [.lit (.bool false)], args := [d1, d2] }
  | _ => none }
def FlatUnionsWrongFalsely : Prop := flatUnionsRow.holds Try.pinned (OpenSpec.ofChange flatUnionsWrong)

/-- 'ingotlaw15.FlatNulls': WHATEVER THE INPUT: true; the input reads as it did. -/
def flatNullsSpec : ChangeSpec := { name := "flatNulls", fn := fun _ => fun
  | [d1, d2] => { results := [.lit (.bool true)], args := [d1, d2] }
  | _ => none }
def flatNullsRow : OpenClaim := { program := "ytgmefkhincnajaa", sum := "a8870b1f540831340bdf286dd238fb918cd5fd81dabe2efe2436388a46277f07", func := "ingot/ingotlaw15.FlatNulls", spec := "flatNulls", unfollowed := true, recurses := true, apart := false }
def FlatNullsSaid : Prop := flatNullsRow.holds Try.pinned (OpenSpec.ofChange flatNullsSpec)

/-- ITS FALSE NEIGHBOUR: 'it returns false'. Refute it at one input. -/
def flatNullsWrong : ChangeSpec := { name := "flatNulls", fn := fun _ => fun
  | [d1, d2] => { results := [.lit (.bool false)], args := [d1, d2] }
  | _ => none }
def FlatNullsWrongFalsely : Prop := flatNullsRow.holds Try.pinned (OpenSpec.ofChange flatNullsWrong)

/- THE SECOND FORM. 'bulk': how many values and letters a reading holds, each counted each time it is reached (what is shared counts as often as it is met; a slice's spare places count too). A statement '..UptoSaid' is the law's where the arguments, and the package variables that the reading takes, are together of bulk at most 1048576: NARROWER than '..Said'. Prove '..Said' where nothing that the law and all that it calls make is longer than what came in: it says more and counts as full. Else prove '..UptoSaid'. A law counts once. -/
mutual
def uptoBulk {H : Type} : DataW H → Nat
  | .lit (.string bytes) => bytes.length + 1
  | .lit _ => 1
  | .nil => 1
  | .ptr d => uptoBulk d + 1
  | .slice elems spare => uptoBulkAll elems + uptoBulkAll spare + 1
  | .agg parts => uptoBulkAll parts + 1
  | .iface _ d => uptoBulk d + 1
  | .map entries => uptoBulkEntries entries + 1
  | .held _ => 1
def uptoBulkAll {H : Type} : List (DataW H) → Nat
  | [] => 0
  | d :: r => uptoBulk d + uptoBulkAll r
def uptoBulkEntries {H : Type} : List (Lit × DataW H) → Nat
  | [] => 0
  | x :: r => uptoBulkEntry x + uptoBulkEntries r
def uptoBulkEntry {H : Type} : Lit × DataW H → Nat
  | (.string bytes, d) => bytes.length + uptoBulk d + 1
  | (_, d) => uptoBulk d + 1
 end
def uptoSmall : (H : Type) → List (DataW H) → Bool := fun _ ds => decide (uptoBulkAll ds ≤ 1048576)
def OpenSpec.upto (s : _root_.Go.ChangeSpec) : _root_.Go.OpenSpec := { _root_.Go.OpenSpec.ofChange s with cond := some uptoSmall }

/-- 'ingotlaw16.StatColumns', WHERE WHAT IT READS IS OF BULK AT MOST 1048576: true; the input reads as it did. -/
def statColumnsUptoRow : OpenClaim := { program := "ytgmefkhincnajaa", sum := "a8870b1f540831340bdf286dd238fb918cd5fd81dabe2efe2436388a46277f07", func := "ingot/ingotlaw16.StatColumns", spec := "statColumns", inPlace := ["internal/bytealg.Compare"], recurses := true, loops := true, apart := false, narrowed := true }
def StatColumnsUptoSaid : Prop := statColumnsUptoRow.holds Try.pinned (OpenSpec.upto statColumnsSpec)

/-- 'ingotlaw16.StatMerges', WHERE WHAT IT READS IS OF BULK AT MOST 1048576: true; the input reads as it did. -/
def statMergesUptoRow : OpenClaim := { program := "ytgmefkhincnajaa", sum := "a8870b1f540831340bdf286dd238fb918cd5fd81dabe2efe2436388a46277f07", func := "ingot/ingotlaw16.StatMerges", spec := "statMerges", inPlace := ["internal/bytealg.Compare"], recurses := true, loops := true, apart := false, narrowed := true }
def StatMergesUptoSaid : Prop := statMergesUptoRow.holds Try.pinned (OpenSpec.upto statMergesSpec)

/-- 'ingotlaw16.StatSums', WHERE WHAT IT READS IS OF BULK AT MOST 1048576: true; the input reads as it did. -/
def statSumsUptoRow : OpenClaim := { program := "ytgmefkhincnajaa", sum := "a8870b1f540831340bdf286dd238fb918cd5fd81dabe2efe2436388a46277f07", func := "ingot/ingotlaw16.StatSums", spec := "statSums", inPlace := ["internal/bytealg.Compare"], recurses := true, apart := false, narrowed := true }
def StatSumsUptoSaid : Prop := statSumsUptoRow.holds Try.pinned (OpenSpec.upto statSumsSpec)

/-- 'ingotlaw16.StatParts', WHERE WHAT IT READS IS OF BULK AT MOST 1048576: true; the input reads as it did. -/
def statPartsUptoRow : OpenClaim := { program := "ytgmefkhincnajaa", sum := "a8870b1f540831340bdf286dd238fb918cd5fd81dabe2efe2436388a46277f07", func := "ingot/ingotlaw16.StatParts", spec := "statParts", inPlace := ["internal/bytealg.Compare"], recurses := true, apart := false, narrowed := true }
def StatPartsUptoSaid : Prop := statPartsUptoRow.holds Try.pinned (OpenSpec.upto statPartsSpec)

/-- 'ingotlaw25.PredMay', WHERE WHAT IT READS IS OF BULK AT MOST 1048576: true; the input reads as it did. -/
def predMayUptoRow : OpenClaim := { program := "ytgmefkhincnajaa", sum := "a8870b1f540831340bdf286dd238fb918cd5fd81dabe2efe2436388a46277f07", func := "ingot/ingotlaw25.PredMay", spec := "predMay", inPlace := ["internal/bytealg.Compare"], recurses := true, loops := true, apart := false, narrowed := true }
def PredMayUptoSaid : Prop := predMayUptoRow.holds Try.pinned (OpenSpec.upto predMaySpec)

/-- 'ingotlaw25.PredTerms', WHERE WHAT IT READS IS OF BULK AT MOST 1048576: true; the input reads as it did. -/
def predTermsUptoRow : OpenClaim := { program := "ytgmefkhincnajaa", sum := "a8870b1f540831340bdf286dd238fb918cd5fd81dabe2efe2436388a46277f07", func := "ingot/ingotlaw25.PredTerms", spec := "predTerms", inPlace := ["internal/bytealg.Compare"], recurses := true, loops := true, apart := false, narrowed := true }
def PredTermsUptoSaid : Prop := predTermsUptoRow.holds Try.pinned (OpenSpec.upto predTermsSpec)

/-- 'ingotlaw25.PredNumbers', WHERE WHAT IT READS IS OF BULK AT MOST 1048576: true; the input reads as it did. -/
def predNumbersUptoRow : OpenClaim := { program := "ytgmefkhincnajaa", sum := "a8870b1f540831340bdf286dd238fb918cd5fd81dabe2efe2436388a46277f07", func := "ingot/ingotlaw25.PredNumbers", spec := "predNumbers", inPlace := ["internal/bytealg.Compare"], recurses := true, apart := false, narrowed := true }
def PredNumbersUptoSaid : Prop := predNumbersUptoRow.holds Try.pinned (OpenSpec.upto predNumbersSpec)

/-- 'ingotlaw25.PredNulls', WHERE WHAT IT READS IS OF BULK AT MOST 1048576: true; the input reads as it did. -/
def predNullsUptoRow : OpenClaim := { program := "ytgmefkhincnajaa", sum := "a8870b1f540831340bdf286dd238fb918cd5fd81dabe2efe2436388a46277f07", func := "ingot/ingotlaw25.PredNulls", spec := "predNulls", inPlace := ["internal/bytealg.Compare"], recurses := true, apart := false, narrowed := true }
def PredNullsUptoSaid : Prop := predNullsUptoRow.holds Try.pinned (OpenSpec.upto predNullsSpec)

/-- 'ingotlaw15.FlatRows', WHERE WHAT IT READS IS OF BULK AT MOST 1048576: true; the input reads as it did. -/
def flatRowsUptoRow : OpenClaim := { program := "ytgmefkhincnajaa", sum := "a8870b1f540831340bdf286dd238fb918cd5fd81dabe2efe2436388a46277f07", func := "ingot/ingotlaw15.FlatRows", spec := "flatRows", unfollowed := true, recurses := true, loops := true, apart := false, narrowed := true }
def FlatRowsUptoSaid : Prop := flatRowsUptoRow.holds Try.pinned (OpenSpec.upto flatRowsSpec)

/-- 'ingotlaw15.FlatBuilds', WHERE WHAT IT READS IS OF BULK AT MOST 1048576: true; the input reads as it did. -/
def flatBuildsUptoRow : OpenClaim := { program := "ytgmefkhincnajaa", sum := "a8870b1f540831340bdf286dd238fb918cd5fd81dabe2efe2436388a46277f07", func := "ingot/ingotlaw15.FlatBuilds", spec := "flatBuilds", unfollowed := true, recurses := true, loops := true, apart := false, narrowed := true }
def FlatBuildsUptoSaid : Prop := flatBuildsUptoRow.holds Try.pinned (OpenSpec.upto flatBuildsSpec)

/-- 'ingotlaw15.FlatProjects', WHERE WHAT IT READS IS OF BULK AT MOST 1048576: true; the input reads as it did. -/
def flatProjectsUptoRow : OpenClaim := { program := "ytgmefkhincnajaa", sum := "a8870b1f540831340bdf286dd238fb918cd5fd81dabe2efe2436388a46277f07", func := "ingot/ingotlaw15.FlatProjects", spec := "flatProjects", unfollowed := true, recurses := true, loops := true, apart := false, narrowed := true }
def FlatProjectsUptoSaid : Prop := flatProjectsUptoRow.holds Try.pinned (OpenSpec.upto flatProjectsSpec)

/-- 'ingotlaw15.FlatCuts', WHERE WHAT IT READS IS OF BULK AT MOST 1048576: true; the input reads as it did. -/
def flatCutsUptoRow : OpenClaim := { program := "ytgmefkhincnajaa", sum := "a8870b1f540831340bdf286dd238fb918cd5fd81dabe2efe2436388a46277f07", func := "ingot/ingotlaw15.FlatCuts", spec := "flatCuts", unfollowed := true, recurses := true, loops := true, apart := false, narrowed := true }
def FlatCutsUptoSaid : Prop := flatCutsUptoRow.holds Try.pinned (OpenSpec.upto flatCutsSpec)

/-- 'ingotlaw15.FlatLists', WHERE WHAT IT READS IS OF BULK AT MOST 1048576: true; the input reads as it did. -/
def flatListsUptoRow : OpenClaim := { program := "ytgmefkhincnajaa", sum := "a8870b1f540831340bdf286dd238fb918cd5fd81dabe2efe2436388a46277f07", func := "ingot/ingotlaw15.FlatLists", spec := "flatLists", unfollowed := true, recurses := true, apart := false, narrowed := true }
def FlatListsUptoSaid : Prop := flatListsUptoRow.holds Try.pinned (OpenSpec.upto flatListsSpec)

/-- 'ingotlaw15.FlatUnions', WHERE WHAT IT READS IS OF BULK AT MOST 1048576: true; the input reads as it did. -/
def flatUnionsUptoRow : OpenClaim := { program := "ytgmefkhincnajaa", sum := "a8870b1f540831340bdf286dd238fb918cd5fd81dabe2efe2436388a46277f07", func := "ingot/ingotlaw15.FlatUnions", spec := "flatUnions", unfollowed := true, recurses := true, apart := false, narrowed := true }
def FlatUnionsUptoSaid : Prop := flatUnionsUptoRow.holds Try.pinned (OpenSpec.upto flatUnionsSpec)

/-- 'ingotlaw15.FlatNulls', WHERE WHAT IT READS IS OF BULK AT MOST 1048576: true; the input reads as it did. -/
def flatNullsUptoRow : OpenClaim := { program := "ytgmefkhincnajaa", sum := "a8870b1f540831340bdf286dd238fb918cd5fd81dabe2efe2436388a46277f07", func := "ingot/ingotlaw15.FlatNulls", spec := "flatNulls", unfollowed := true, recurses := true, apart := false, narrowed := true }
def FlatNullsUptoSaid : Prop := flatNullsUptoRow.holds Try.pinned (OpenSpec.upto flatNullsSpec)

end Rows
end Go.Proofs.Ytgmefkhincnajaa
