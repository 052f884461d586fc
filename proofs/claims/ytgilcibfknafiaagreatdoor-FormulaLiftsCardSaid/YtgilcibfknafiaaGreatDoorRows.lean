/-
  NARROWER THAN 'FOR EVERY INPUT', by the rows' own cells (each row's printed sentence says how): ProofHyps: laid · ProofKeeps: laid · ProofLifts: laid · FormulaMatches: loops, laid · FormulaOrder: laid · ProofCommutes: laid · FormulaLifts: laid · FormulaDoes: loops, laid · ProofDoes: loops, laid · FormulaSame: laid.
  DERIVED. THE GIVEN ROWS OF THIS SEAT. 10 by the template 'for every input the law returns true; each argument reads behind the call as it read before'; 0 by the template 'total and deterministic' (their statements: YtgilcibfknafiaaGreatDoorTotals.lean).
  GIVEN WITH THE SEED: the statements are not yours to turn. If you find one false, say at which input.
  Laid BY PROGRAM, IN A SANDBOX (cutbox-rows.mjs): the forced cells as the released guide's own fill.sh prints them over the translation 392c208d178115e7… (all of the seat's roots in one cut). By AI agents, Wed Nov 11 2026. No macro, syntax, notation, axiom, sorry.
-/
import Derived.Test.YtgilcibfknafiaaGreatDoorChecked
import GoSem.Claim
import GoSem.ClaimJoined
import GoSem.ClaimMapViews
import Derived.JoinedTies
import Derived.KernelRfl
namespace Go.Proofs.YtgilcibfknafiaaGreatDoor
/- THE CELL 'sum', in the pinned program and in every row, IS THE sha256 OF THE DUMP (.gsa) THAT YtgilcibfknafiaaGreatDoorProg.lean LOADS. Nothing in Lean hashes anything: it is a label: what it is worth is what the hold of that sum in a sandbox is worth. -/
noncomputable def Tryz.pinned : Pinned := { name := "ytgilcibfknafiaagreatdoor", sum := "392c208d178115e7eff99905d18e43fb488a0fad7597e30367300c2be16660d8", checked := Tryz.checked }
namespace Rows
def none {H : Type} : Left H := { results := [], args := [] }

/- WHAT THE LISTED PACKAGE-LEVEL VARIABLES READ AS WHEN THE CALL BEGINS. Each datum BY PROGRAM (the guide's laid-datum.mjs) off the statement by which the dump's own 'gosem.cut.vars' lays the variable. In a bare row this is a premise. The card (YtgilcibfknafiaaGreatDoorCards.lean) ties it to the program's text. -/
def laid_proofprograms_tree_rules {H : Type} : DataW H := .agg [.agg [.lit (.bool false), .lit (.bool false), .lit (.int .i64 0), .lit (.int .i64 0), .lit (.int .i64 0), .lit (.int .i64 0), .lit (.int .i64 0), .lit (.int .i64 0)], .agg [.lit (.bool true), .lit (.bool false), .lit (.int .i64 0), .lit (.int .i64 0), .lit (.int .i64 0), .lit (.int .i64 0), .lit (.int .i64 0), .lit (.int .i64 0)], .agg [.lit (.bool true), .lit (.bool false), .lit (.int .i64 0), .lit (.int .i64 0), .lit (.int .i64 0), .lit (.int .i64 0), .lit (.int .i64 0), .lit (.int .i64 0)], .agg [.lit (.bool false), .lit (.bool false), .lit (.int .i64 0), .lit (.int .i64 0), .lit (.int .i64 2), .lit (.int .i64 0), .lit (.int .i64 0), .lit (.int .i64 0)], .agg [.lit (.bool false), .lit (.bool false), .lit (.int .i64 0), .lit (.int .i64 0), .lit (.int .i64 1), .lit (.int .i64 0), .lit (.int .i64 0), .lit (.int .i64 0)], .agg [.lit (.bool false), .lit (.bool false), .lit (.int .i64 0), .lit (.int .i64 0), .lit (.int .i64 1), .lit (.int .i64 0), .lit (.int .i64 0), .lit (.int .i64 0)], .agg [.lit (.bool false), .lit (.bool false), .lit (.int .i64 0), .lit (.int .i64 1), .lit (.int .i64 1), .lit (.int .i64 0), .lit (.int .i64 0), .lit (.int .i64 1)], .agg [.lit (.bool false), .lit (.bool false), .lit (.int .i64 0), .lit (.int .i64 0), .lit (.int .i64 2), .lit (.int .i64 0), .lit (.int .i64 0), .lit (.int .i64 0)], .agg [.lit (.bool false), .lit (.bool true), .lit (.int .i64 0), .lit (.int .i64 0), .lit (.int .i64 1), .lit (.int .i64 0), .lit (.int .i64 1), .lit (.int .i64 0)], .agg [.lit (.bool false), .lit (.bool false), .lit (.int .i64 1), .lit (.int .i64 0), .lit (.int .i64 1), .lit (.int .i64 0), .lit (.int .i64 0), .lit (.int .i64 0)], .agg [.lit (.bool false), .lit (.bool false), .lit (.int .i64 1), .lit (.int .i64 1), .lit (.int .i64 1), .lit (.int .i64 0), .lit (.int .i64 0), .lit (.int .i64 0)], .agg [.lit (.bool false), .lit (.bool false), .lit (.int .i64 0), .lit (.int .i64 0), .lit (.int .i64 2), .lit (.int .i64 0), .lit (.int .i64 1), .lit (.int .i64 1)], .agg [.lit (.bool false), .lit (.bool true), .lit (.int .i64 0), .lit (.int .i64 0), .lit (.int .i64 1), .lit (.int .i64 0), .lit (.int .i64 1), .lit (.int .i64 0)], .agg [.lit (.bool false), .lit (.bool false), .lit (.int .i64 1), .lit (.int .i64 0), .lit (.int .i64 1), .lit (.int .i64 0), .lit (.int .i64 0), .lit (.int .i64 0)], .agg [.lit (.bool false), .lit (.bool false), .lit (.int .i64 1), .lit (.int .i64 1), .lit (.int .i64 1), .lit (.int .i64 0), .lit (.int .i64 0), .lit (.int .i64 0)], .agg [.lit (.bool false), .lit (.bool false), .lit (.int .i64 0), .lit (.int .i64 0), .lit (.int .i64 2), .lit (.int .i64 0), .lit (.int .i64 1), .lit (.int .i64 1)], .agg [.lit (.bool false), .lit (.bool false), .lit (.int .i64 1), .lit (.int .i64 1), .lit (.int .i64 2), .lit (.int .i64 1), .lit (.int .i64 1), .lit (.int .i64 1)], .agg [.lit (.bool false), .lit (.bool false), .lit (.int .i64 1), .lit (.int .i64 1), .lit (.int .i64 2), .lit (.int .i64 1), .lit (.int .i64 2), .lit (.int .i64 1)], .agg [.lit (.bool false), .lit (.bool false), .lit (.int .i64 1), .lit (.int .i64 0), .lit (.int .i64 0), .lit (.int .i64 0), .lit (.int .i64 0), .lit (.int .i64 0)], .agg [.lit (.bool false), .lit (.bool false), .lit (.int .i64 0), .lit (.int .i64 1), .lit (.int .i64 2), .lit (.int .i64 1), .lit (.int .i64 0), .lit (.int .i64 0)], .agg [.lit (.bool false), .lit (.bool false), .lit (.int .i64 0), .lit (.int .i64 0), .lit (.int .i64 1), .lit (.int .i64 0), .lit (.int .i64 0), .lit (.int .i64 0)]]
def laid_proofprograms_tree_arities {H : Type} : DataW H := .agg [.lit (.int .i64 0), .lit (.int .i64 0), .lit (.int .i64 1), .lit (.int .i64 2), .lit (.int .i64 0), .lit (.int .i64 1), .lit (.int .i64 3), .lit (.int .i64 0), .lit (.int .i64 2), .lit (.int .i64 3), .lit (.int .i64 2), .lit (.int .i64 1), .lit (.int .i64 1), .lit (.int .i64 0)]

/-- 'proofprogramslaw10.ProofHyps': WHATEVER THE INPUT: true; the input reads as it did. -/
def proofHypsSpec : ChangeSpec := { name := "proofHyps", fn := fun _ => fun
  | [d] => { results := [.lit (.bool true)], args := [d] }
  | _ => none }
def proofHypsRow : OpenClaim := { program := "ytgilcibfknafiaagreatdoor", sum := "392c208d178115e7eff99905d18e43fb488a0fad7597e30367300c2be16660d8", func := "proofprograms/proofprogramslaw10.ProofHyps", spec := "proofHyps", unfollowed := true, recurses := true, named := ["proofprograms/tree.rules", "proofprograms/tree.arities"], apart := false, laid := [("proofprograms/tree.rules", laid_proofprograms_tree_rules), ("proofprograms/tree.arities", laid_proofprograms_tree_arities)] }
def ProofHypsSaid : Prop := proofHypsRow.holds Tryz.pinned (OpenSpec.ofChange proofHypsSpec)

/-- ITS FALSE NEIGHBOUR: 'it returns false'. Refute it at one input. -/
def proofHypsWrong : ChangeSpec := { name := "proofHyps", fn := fun _ => fun
  | [d] => { results := [.lit (.bool false)], args := [d] }
  | _ => none }
def ProofHypsWrongFalsely : Prop := proofHypsRow.holds Tryz.pinned (OpenSpec.ofChange proofHypsWrong)

/-- 'proofprogramslaw10.ProofKeeps': WHATEVER THE INPUT: true; the input reads as it did. -/
def proofKeepsSpec : ChangeSpec := { name := "proofKeeps", fn := fun _ => fun
  | [d1, d2] => { results := [.lit (.bool true)], args := [d1, d2] }
  | _ => none }
def proofKeepsRow : OpenClaim := { program := "ytgilcibfknafiaagreatdoor", sum := "392c208d178115e7eff99905d18e43fb488a0fad7597e30367300c2be16660d8", func := "proofprograms/proofprogramslaw10.ProofKeeps", spec := "proofKeeps", unfollowed := true, recurses := true, named := ["proofprograms/tree.rules", "proofprograms/tree.arities"], apart := false, laid := [("proofprograms/tree.rules", laid_proofprograms_tree_rules), ("proofprograms/tree.arities", laid_proofprograms_tree_arities)] }
def ProofKeepsSaid : Prop := proofKeepsRow.holds Tryz.pinned (OpenSpec.ofChange proofKeepsSpec)

/-- ITS FALSE NEIGHBOUR: 'it returns false'. Refute it at one input. -/
def proofKeepsWrong : ChangeSpec := { name := "proofKeeps", fn := fun _ => fun
  | [d1, d2] => { results := [.lit (.bool false)], args := [d1, d2] }
  | _ => none }
def ProofKeepsWrongFalsely : Prop := proofKeepsRow.holds Tryz.pinned (OpenSpec.ofChange proofKeepsWrong)

/-- 'proofprogramslaw10.ProofLifts': WHATEVER THE INPUT: true; the input reads as it did. -/
def proofLiftsSpec : ChangeSpec := { name := "proofLifts", fn := fun _ => fun
  | [d1, d2] => { results := [.lit (.bool true)], args := [d1, d2] }
  | _ => none }
def proofLiftsRow : OpenClaim := { program := "ytgilcibfknafiaagreatdoor", sum := "392c208d178115e7eff99905d18e43fb488a0fad7597e30367300c2be16660d8", func := "proofprograms/proofprogramslaw10.ProofLifts", spec := "proofLifts", unfollowed := true, recurses := true, named := ["proofprograms/tree.rules", "proofprograms/tree.arities"], apart := false, laid := [("proofprograms/tree.rules", laid_proofprograms_tree_rules), ("proofprograms/tree.arities", laid_proofprograms_tree_arities)] }
def ProofLiftsSaid : Prop := proofLiftsRow.holds Tryz.pinned (OpenSpec.ofChange proofLiftsSpec)

/-- ITS FALSE NEIGHBOUR: 'it returns false'. Refute it at one input. -/
def proofLiftsWrong : ChangeSpec := { name := "proofLifts", fn := fun _ => fun
  | [d1, d2] => { results := [.lit (.bool false)], args := [d1, d2] }
  | _ => none }
def ProofLiftsWrongFalsely : Prop := proofLiftsRow.holds Tryz.pinned (OpenSpec.ofChange proofLiftsWrong)

/-- 'proofprogramslaw07.FormulaMatches': WHATEVER THE INPUT: true; the input reads as it did. -/
def formulaMatchesSpec : ChangeSpec := { name := "formulaMatches", fn := fun _ => fun
  | [d1, d2, d3] => { results := [.lit (.bool true)], args := [d1, d2, d3] }
  | _ => none }
def formulaMatchesRow : OpenClaim := { program := "ytgilcibfknafiaagreatdoor", sum := "392c208d178115e7eff99905d18e43fb488a0fad7597e30367300c2be16660d8", func := "proofprograms/proofprogramslaw07.FormulaMatches", spec := "formulaMatches", unfollowed := true, recurses := true, named := ["proofprograms/tree.arities"], loops := true, apart := false, laid := [("proofprograms/tree.arities", laid_proofprograms_tree_arities)] }
def FormulaMatchesSaid : Prop := formulaMatchesRow.holds Tryz.pinned (OpenSpec.ofChange formulaMatchesSpec)

/-- ITS FALSE NEIGHBOUR: 'it returns false'. Refute it at one input. -/
def formulaMatchesWrong : ChangeSpec := { name := "formulaMatches", fn := fun _ => fun
  | [d1, d2, d3] => { results := [.lit (.bool false)], args := [d1, d2, d3] }
  | _ => none }
def FormulaMatchesWrongFalsely : Prop := formulaMatchesRow.holds Tryz.pinned (OpenSpec.ofChange formulaMatchesWrong)

/-- 'proofprogramslaw07.FormulaOrder': WHATEVER THE INPUT: true; the input reads as it did. -/
def formulaOrderSpec : ChangeSpec := { name := "formulaOrder", fn := fun _ => fun
  | [d] => { results := [.lit (.bool true)], args := [d] }
  | _ => none }
def formulaOrderRow : OpenClaim := { program := "ytgilcibfknafiaagreatdoor", sum := "392c208d178115e7eff99905d18e43fb488a0fad7597e30367300c2be16660d8", func := "proofprograms/proofprogramslaw07.FormulaOrder", spec := "formulaOrder", unfollowed := true, recurses := true, named := ["proofprograms/tree.arities"], apart := false, laid := [("proofprograms/tree.arities", laid_proofprograms_tree_arities)] }
def FormulaOrderSaid : Prop := formulaOrderRow.holds Tryz.pinned (OpenSpec.ofChange formulaOrderSpec)

/-- ITS FALSE NEIGHBOUR: 'it returns false'. Refute it at one input. -/
def formulaOrderWrong : ChangeSpec := { name := "formulaOrder", fn := fun _ => fun
  | [d] => { results := [.lit (.bool false)], args := [d] }
  | _ => none }
def FormulaOrderWrongFalsely : Prop := formulaOrderRow.holds Tryz.pinned (OpenSpec.ofChange formulaOrderWrong)

/-- 'proofprogramslaw10.ProofCommutes': WHATEVER THE INPUT: true; the input reads as it did. -/
def proofCommutesSpec : ChangeSpec := { name := "proofCommutes", fn := fun _ => fun
  | [d] => { results := [.lit (.bool true)], args := [d] }
  | _ => none }
def proofCommutesRow : OpenClaim := { program := "ytgilcibfknafiaagreatdoor", sum := "392c208d178115e7eff99905d18e43fb488a0fad7597e30367300c2be16660d8", func := "proofprograms/proofprogramslaw10.ProofCommutes", spec := "proofCommutes", unfollowed := true, recurses := true, named := ["proofprograms/tree.rules", "proofprograms/tree.arities"], apart := false, laid := [("proofprograms/tree.rules", laid_proofprograms_tree_rules), ("proofprograms/tree.arities", laid_proofprograms_tree_arities)] }
def ProofCommutesSaid : Prop := proofCommutesRow.holds Tryz.pinned (OpenSpec.ofChange proofCommutesSpec)

/-- ITS FALSE NEIGHBOUR: 'it returns false'. Refute it at one input. -/
def proofCommutesWrong : ChangeSpec := { name := "proofCommutes", fn := fun _ => fun
  | [d] => { results := [.lit (.bool false)], args := [d] }
  | _ => none }
def ProofCommutesWrongFalsely : Prop := proofCommutesRow.holds Tryz.pinned (OpenSpec.ofChange proofCommutesWrong)

/-- 'proofprogramslaw07.FormulaLifts': WHATEVER THE INPUT: true; the input reads as it did. -/
def formulaLiftsSpec : ChangeSpec := { name := "formulaLifts", fn := fun _ => fun
  | [d] => { results := [.lit (.bool true)], args := [d] }
  | _ => none }
def formulaLiftsRow : OpenClaim := { program := "ytgilcibfknafiaagreatdoor", sum := "392c208d178115e7eff99905d18e43fb488a0fad7597e30367300c2be16660d8", func := "proofprograms/proofprogramslaw07.FormulaLifts", spec := "formulaLifts", unfollowed := true, recurses := true, named := ["proofprograms/tree.arities"], apart := false, laid := [("proofprograms/tree.arities", laid_proofprograms_tree_arities)] }
def FormulaLiftsSaid : Prop := formulaLiftsRow.holds Tryz.pinned (OpenSpec.ofChange formulaLiftsSpec)

/-- ITS FALSE NEIGHBOUR: 'it returns false'. Refute it at one input. -/
def formulaLiftsWrong : ChangeSpec := { name := "formulaLifts", fn := fun _ => fun
  | [d] => { results := [.lit (.bool false)], args := [d] }
  | _ => none }
def FormulaLiftsWrongFalsely : Prop := formulaLiftsRow.holds Tryz.pinned (OpenSpec.ofChange formulaLiftsWrong)

/-- 'proofprogramslaw07.FormulaDoes': WHATEVER THE INPUT: true; the input reads as it did. -/
def formulaDoesSpec : ChangeSpec := { name := "formulaDoes", fn := fun _ => fun
  | [d1, d2, d3, d4, d5, d6, d7] => { results := [.lit (.bool true)], args := [d1, d2, d3, d4, d5, d6, d7] }
  | _ => none }
def formulaDoesRow : OpenClaim := { program := "ytgilcibfknafiaagreatdoor", sum := "392c208d178115e7eff99905d18e43fb488a0fad7597e30367300c2be16660d8", func := "proofprograms/proofprogramslaw07.FormulaDoes", spec := "formulaDoes", unfollowed := true, recurses := true, named := ["proofprograms/tree.arities"], loops := true, apart := false, laid := [("proofprograms/tree.arities", laid_proofprograms_tree_arities)] }
def FormulaDoesSaid : Prop := formulaDoesRow.holds Tryz.pinned (OpenSpec.ofChange formulaDoesSpec)

/-- ITS FALSE NEIGHBOUR: 'it returns false'. Refute it at one input. -/
def formulaDoesWrong : ChangeSpec := { name := "formulaDoes", fn := fun _ => fun
  | [d1, d2, d3, d4, d5, d6, d7] => { results := [.lit (.bool false)], args := [d1, d2, d3, d4, d5, d6, d7] }
  | _ => none }
def FormulaDoesWrongFalsely : Prop := formulaDoesRow.holds Tryz.pinned (OpenSpec.ofChange formulaDoesWrong)

/-- 'proofprogramslaw10.ProofDoes': WHATEVER THE INPUT: true; the input reads as it did. -/
def proofDoesSpec : ChangeSpec := { name := "proofDoes", fn := fun _ => fun
  | [d1, d2, d3, d4, d5, d6] => { results := [.lit (.bool true)], args := [d1, d2, d3, d4, d5, d6] }
  | _ => none }
def proofDoesRow : OpenClaim := { program := "ytgilcibfknafiaagreatdoor", sum := "392c208d178115e7eff99905d18e43fb488a0fad7597e30367300c2be16660d8", func := "proofprograms/proofprogramslaw10.ProofDoes", spec := "proofDoes", unfollowed := true, recurses := true, named := ["proofprograms/tree.rules", "proofprograms/tree.arities"], loops := true, apart := false, laid := [("proofprograms/tree.rules", laid_proofprograms_tree_rules), ("proofprograms/tree.arities", laid_proofprograms_tree_arities)] }
def ProofDoesSaid : Prop := proofDoesRow.holds Tryz.pinned (OpenSpec.ofChange proofDoesSpec)

/-- ITS FALSE NEIGHBOUR: 'it returns false'. Refute it at one input. -/
def proofDoesWrong : ChangeSpec := { name := "proofDoes", fn := fun _ => fun
  | [d1, d2, d3, d4, d5, d6] => { results := [.lit (.bool false)], args := [d1, d2, d3, d4, d5, d6] }
  | _ => none }
def ProofDoesWrongFalsely : Prop := proofDoesRow.holds Tryz.pinned (OpenSpec.ofChange proofDoesWrong)

/-- 'proofprogramslaw07.FormulaSame': WHATEVER THE INPUT: true; the input reads as it did. -/
def formulaSameSpec : ChangeSpec := { name := "formulaSame", fn := fun _ => fun
  | [d] => { results := [.lit (.bool true)], args := [d] }
  | _ => none }
def formulaSameRow : OpenClaim := { program := "ytgilcibfknafiaagreatdoor", sum := "392c208d178115e7eff99905d18e43fb488a0fad7597e30367300c2be16660d8", func := "proofprograms/proofprogramslaw07.FormulaSame", spec := "formulaSame", unfollowed := true, recurses := true, named := ["proofprograms/tree.arities"], apart := false, laid := [("proofprograms/tree.arities", laid_proofprograms_tree_arities)] }
def FormulaSameSaid : Prop := formulaSameRow.holds Tryz.pinned (OpenSpec.ofChange formulaSameSpec)

/-- ITS FALSE NEIGHBOUR: 'it returns false'. Refute it at one input. -/
def formulaSameWrong : ChangeSpec := { name := "formulaSame", fn := fun _ => fun
  | [d] => { results := [.lit (.bool false)], args := [d] }
  | _ => none }
def FormulaSameWrongFalsely : Prop := formulaSameRow.holds Tryz.pinned (OpenSpec.ofChange formulaSameWrong)

/- THE SECOND FORM. 'bulk': how many values and letters a reading holds, each counted each time it is reached (what is shared counts as often as it is met; a slice's spare places count too). A statement '..UptoSaid' is the law's where the arguments, and the package variables that the reading takes, are together of bulk at most 1048576: NARROWER than '..Said'. Prove '..Said' where nothing that the law and all that it calls make is longer than what came in: it says more and counts as full. Else prove '..UptoSaid'. A law counts once. -/
mutual
def uptoBulk {H : Type} : DataW H → Nat
  | .lit (.string bytes) => bytes.length + 1
  | .lit _ => 1
  | .nil => 1
  | .ptr d => uptoBulk d + 1
  | .slice elems spare => uptoBulkAll elems + uptoBulkAll spare + 1
  | .agg parts => uptoBulkAll parts + 1
  | .iface _ d => uptoBulk d + 1
  | .map entries => uptoBulkEntries entries + 1
  | .held _ => 1
def uptoBulkAll {H : Type} : List (DataW H) → Nat
  | [] => 0
  | d :: r => uptoBulk d + uptoBulkAll r
def uptoBulkEntries {H : Type} : List (Lit × DataW H) → Nat
  | [] => 0
  | x :: r => uptoBulkEntry x + uptoBulkEntries r
def uptoBulkEntry {H : Type} : Lit × DataW H → Nat
  | (.string bytes, d) => bytes.length + uptoBulk d + 1
  | (_, d) => uptoBulk d + 1
 end
def uptoSmall : (H : Type) → List (DataW H) → Bool := fun _ ds => decide (uptoBulkAll ds ≤ 1048576)
def OpenSpec.upto (s : _root_.Go.ChangeSpec) : _root_.Go.OpenSpec := { _root_.Go.OpenSpec.ofChange s with cond := some uptoSmall }

/-- 'proofprogramslaw10.ProofHyps', WHERE WHAT IT READS IS OF BULK AT MOST 1048576: true; the input reads as it did. -/
def proofHypsUptoRow : OpenClaim := { program := "ytgilcibfknafiaagreatdoor", sum := "392c208d178115e7eff99905d18e43fb488a0fad7597e30367300c2be16660d8", func := "proofprograms/proofprogramslaw10.ProofHyps", spec := "proofHyps", unfollowed := true, recurses := true, named := ["proofprograms/tree.rules", "proofprograms/tree.arities"], apart := false, laid := [("proofprograms/tree.rules", laid_proofprograms_tree_rules), ("proofprograms/tree.arities", laid_proofprograms_tree_arities)], narrowed := true }
def ProofHypsUptoSaid : Prop := proofHypsUptoRow.holds Tryz.pinned (OpenSpec.upto proofHypsSpec)

/-- 'proofprogramslaw10.ProofKeeps', WHERE WHAT IT READS IS OF BULK AT MOST 1048576: true; the input reads as it did. -/
def proofKeepsUptoRow : OpenClaim := { program := "ytgilcibfknafiaagreatdoor", sum := "392c208d178115e7eff99905d18e43fb488a0fad7597e30367300c2be16660d8", func := "proofprograms/proofprogramslaw10.ProofKeeps", spec := "proofKeeps", unfollowed := true, recurses := true, named := ["proofprograms/tree.rules", "proofprograms/tree.arities"], apart := false, laid := [("proofprograms/tree.rules", laid_proofprograms_tree_rules), ("proofprograms/tree.arities", laid_proofprograms_tree_arities)], narrowed := true }
def ProofKeepsUptoSaid : Prop := proofKeepsUptoRow.holds Tryz.pinned (OpenSpec.upto proofKeepsSpec)

/-- 'proofprogramslaw10.ProofLifts', WHERE WHAT IT READS IS OF BULK AT MOST 1048576: true; the input reads as it did. -/
def proofLiftsUptoRow : OpenClaim := { program := "ytgilcibfknafiaagreatdoor", sum := "392c208d178115e7eff99905d18e43fb488a0fad7597e30367300c2be16660d8", func := "proofprograms/proofprogramslaw10.ProofLifts", spec := "proofLifts", unfollowed := true, recurses := true, named := ["proofprograms/tree.rules", "proofprograms/tree.arities"], apart := false, laid := [("proofprograms/tree.rules", laid_proofprograms_tree_rules), ("proofprograms/tree.arities", laid_proofprograms_tree_arities)], narrowed := true }
def ProofLiftsUptoSaid : Prop := proofLiftsUptoRow.holds Tryz.pinned (OpenSpec.upto proofLiftsSpec)

/-- 'proofprogramslaw07.FormulaMatches', WHERE WHAT IT READS IS OF BULK AT MOST 1048576: true; the input reads as it did. -/
def formulaMatchesUptoRow : OpenClaim := { program := "ytgilcibfknafiaagreatdoor", sum := "392c208d178115e7eff99905d18e43fb488a0fad7597e30367300c2be16660d8", func := "proofprograms/proofprogramslaw07.FormulaMatches", spec := "formulaMatches", unfollowed := true, recurses := true, named := ["proofprograms/tree.arities"], loops := true, apart := false, laid := [("proofprograms/tree.arities", laid_proofprograms_tree_arities)], narrowed := true }
def FormulaMatchesUptoSaid : Prop := formulaMatchesUptoRow.holds Tryz.pinned (OpenSpec.upto formulaMatchesSpec)

/-- 'proofprogramslaw07.FormulaOrder', WHERE WHAT IT READS IS OF BULK AT MOST 1048576: true; the input reads as it did. -/
def formulaOrderUptoRow : OpenClaim := { program := "ytgilcibfknafiaagreatdoor", sum := "392c208d178115e7eff99905d18e43fb488a0fad7597e30367300c2be16660d8", func := "proofprograms/proofprogramslaw07.FormulaOrder", spec := "formulaOrder", unfollowed := true, recurses := true, named := ["proofprograms/tree.arities"], apart := false, laid := [("proofprograms/tree.arities", laid_proofprograms_tree_arities)], narrowed := true }
def FormulaOrderUptoSaid : Prop := formulaOrderUptoRow.holds Tryz.pinned (OpenSpec.upto formulaOrderSpec)

/-- 'proofprogramslaw10.ProofCommutes', WHERE WHAT IT READS IS OF BULK AT MOST 1048576: true; the input reads as it did. -/
def proofCommutesUptoRow : OpenClaim := { program := "ytgilcibfknafiaagreatdoor", sum := "392c208d178115e7eff99905d18e43fb488a0fad7597e30367300c2be16660d8", func := "proofprograms/proofprogramslaw10.ProofCommutes", spec := "proofCommutes", unfollowed := true, recurses := true, named := ["proofprograms/tree.rules", "proofprograms/tree.arities"], apart := false, laid := [("proofprograms/tree.rules", laid_proofprograms_tree_rules), ("proofprograms/tree.arities", laid_proofprograms_tree_arities)], narrowed := true }
def ProofCommutesUptoSaid : Prop := proofCommutesUptoRow.holds Tryz.pinned (OpenSpec.upto proofCommutesSpec)

/-- 'proofprogramslaw07.FormulaLifts', WHERE WHAT IT READS IS OF BULK AT MOST 1048576: true; the input reads as it did. -/
def formulaLiftsUptoRow : OpenClaim := { program := "ytgilcibfknafiaagreatdoor", sum := "392c208d178115e7eff99905d18e43fb488a0fad7597e30367300c2be16660d8", func := "proofprograms/proofprogramslaw07.FormulaLifts", spec := "formulaLifts", unfollowed := true, recurses := true, named := ["proofprograms/tree.arities"], apart := false, laid := [("proofprograms/tree.arities", laid_proofprograms_tree_arities)], narrowed := true }
def FormulaLiftsUptoSaid : Prop := formulaLiftsUptoRow.holds Tryz.pinned (OpenSpec.upto formulaLiftsSpec)

/-- 'proofprogramslaw07.FormulaDoes', WHERE WHAT IT READS IS OF BULK AT MOST 1048576: true; the input reads as it did. -/
def formulaDoesUptoRow : OpenClaim := { program := "ytgilcibfknafiaagreatdoor", sum := "392c208d178115e7eff99905d18e43fb488a0fad7597e30367300c2be16660d8", func := "proofprograms/proofprogramslaw07.FormulaDoes", spec := "formulaDoes", unfollowed := true, recurses := true, named := ["proofprograms/tree.arities"], loops := true, apart := false, laid := [("proofprograms/tree.arities", laid_proofprograms_tree_arities)], narrowed := true }
def FormulaDoesUptoSaid : Prop := formulaDoesUptoRow.holds Tryz.pinned (OpenSpec.upto formulaDoesSpec)

/-- 'proofprogramslaw10.ProofDoes', WHERE WHAT IT READS IS OF BULK AT MOST 1048576: true; the input reads as it did. -/
def proofDoesUptoRow : OpenClaim := { program := "ytgilcibfknafiaagreatdoor", sum := "392c208d178115e7eff99905d18e43fb488a0fad7597e30367300c2be16660d8", func := "proofprograms/proofprogramslaw10.ProofDoes", spec := "proofDoes", unfollowed := true, recurses := true, named := ["proofprograms/tree.rules", "proofprograms/tree.arities"], loops := true, apart := false, laid := [("proofprograms/tree.rules", laid_proofprograms_tree_rules), ("proofprograms/tree.arities", laid_proofprograms_tree_arities)], narrowed := true }
def ProofDoesUptoSaid : Prop := proofDoesUptoRow.holds Tryz.pinned (OpenSpec.upto proofDoesSpec)

/-- 'proofprogramslaw07.FormulaSame', WHERE WHAT IT READS IS OF BULK AT MOST 1048576: true; the input reads as it did. -/
def formulaSameUptoRow : OpenClaim := { program := "ytgilcibfknafiaagreatdoor", sum := "392c208d178115e7eff99905d18e43fb488a0fad7597e30367300c2be16660d8", func := "proofprograms/proofprogramslaw07.FormulaSame", spec := "formulaSame", unfollowed := true, recurses := true, named := ["proofprograms/tree.arities"], apart := false, laid := [("proofprograms/tree.arities", laid_proofprograms_tree_arities)], narrowed := true }
def FormulaSameUptoSaid : Prop := formulaSameUptoRow.holds Tryz.pinned (OpenSpec.upto formulaSameSpec)

end Rows
end Go.Proofs.YtgilcibfknafiaaGreatDoor
