/-
  NARROWER THAN 'FOR EVERY INPUT', by the rows' own cells (each row's printed sentence says how): FactsParts: laid · FactsHold: laid · ExtractKeeps: laid.
  DERIVED. THE GIVEN ROWS OF THIS SEAT. 3 by the template 'for every input the law returns true; each argument reads behind the call as it read before'; 0 by the template 'total and deterministic' (their statements: YtpboednjlchnhaaDoorTotals.lean).
  GIVEN WITH THE SEED: the statements are not yours to turn. If you find one false, say at which input.
  Laid BY PROGRAM, IN A SANDBOX (cutbox-rows.mjs): the forced cells as the released guide's own fill.sh prints them over the translation db274814955be044… (all of the seat's roots in one cut). By AI agents, Wed Nov 11 2026. No macro, syntax, notation, axiom, sorry.
-/
import Derived.Test.YtpboednjlchnhaaDoorChecked
import GoSem.Claim
import GoSem.ClaimJoined
import GoSem.ClaimMapViews
import Derived.JoinedTies
import Derived.KernelRfl
namespace Go.Proofs.YtpboednjlchnhaaDoor
/- THE CELL 'sum', in the pinned program and in every row, IS THE sha256 OF THE DUMP (.gsa) THAT YtpboednjlchnhaaDoorProg.lean LOADS. Nothing in Lean hashes anything: it is a label: what it is worth is what the hold of that sum in a sandbox is worth. -/
noncomputable def Tryd.pinned : Pinned := { name := "ytpboednjlchnhaadoor", sum := "db274814955be044c0e938a20b34cda11cf24cc201c63970e421c5dc0e14779c", checked := Tryd.checked }
namespace Rows
def none {H : Type} : Left H := { results := [], args := [] }

/- WHAT THE LISTED PACKAGE-LEVEL VARIABLES READ AS WHEN THE CALL BEGINS. Each datum BY PROGRAM (the guide's laid-datum.mjs) off the statement by which the dump's own 'gosem.cut.vars' lays the variable. In a bare row this is a premise. The card (YtpboednjlchnhaaDoorCards.lean) ties it to the program's text. -/
def laid_sorrel_runes_letters {H : Type} : DataW H := .agg [.agg [.lit (.int .i32 97), .lit (.int .i32 122)], .agg [.lit (.int .i32 65), .lit (.int .i32 90)], .agg [.lit (.int .i32 95), .lit (.int .i32 95)], .agg [.lit (.int .i32 192), .lit (.int .i32 214)], .agg [.lit (.int .i32 216), .lit (.int .i32 246)], .agg [.lit (.int .i32 248), .lit (.int .i32 591)], .agg [.lit (.int .i32 880), .lit (.int .i32 893)], .agg [.lit (.int .i32 895), .lit (.int .i32 902)], .agg [.lit (.int .i32 904), .lit (.int .i32 1023)], .agg [.lit (.int .i32 1024), .lit (.int .i32 1153)], .agg [.lit (.int .i32 1162), .lit (.int .i32 1327)], .agg [.lit (.int .i32 19968), .lit (.int .i32 40959)], .agg [.lit (.int .i32 66560), .lit (.int .i32 66639)]]
def laid_sorrel_runes_zeros {H : Type} : DataW H := .agg [.lit (.int .i32 48), .lit (.int .i32 1632), .lit (.int .i32 65296)]

/-- 'sorrellaw13.FactsParts': WHATEVER THE INPUT: true; the input reads as it did. -/
def factsPartsSpec : ChangeSpec := { name := "factsParts", fn := fun _ => fun
  | [d] => { results := [.lit (.bool true)], args := [d] }
  | _ => none }
def factsPartsRow : OpenClaim := { program := "ytpboednjlchnhaadoor", sum := "db274814955be044c0e938a20b34cda11cf24cc201c63970e421c5dc0e14779c", func := "sorrel/sorrellaw13.FactsParts", spec := "factsParts", named := ["sorrel/runes.letters", "sorrel/runes.zeros"], apart := false, laid := [("sorrel/runes.letters", laid_sorrel_runes_letters), ("sorrel/runes.zeros", laid_sorrel_runes_zeros)] }
def FactsPartsSaid : Prop := factsPartsRow.holds Tryd.pinned (OpenSpec.ofChange factsPartsSpec)

/-- ITS FALSE NEIGHBOUR: 'it returns false'. Refute it at one input. -/
def factsPartsWrong : ChangeSpec := { name := "factsParts", fn := fun _ => fun
  | [d] => { results := [.lit (.bool false)], args := [d] }
  | _ => none }
def FactsPartsWrongFalsely : Prop := factsPartsRow.holds Tryd.pinned (OpenSpec.ofChange factsPartsWrong)

/-- 'sorrellaw13.FactsHold': WHATEVER THE INPUT: true; the input reads as it did. -/
def factsHoldSpec : ChangeSpec := { name := "factsHold", fn := fun _ => fun
  | [d1, d2] => { results := [.lit (.bool true)], args := [d1, d2] }
  | _ => none }
def factsHoldRow : OpenClaim := { program := "ytpboednjlchnhaadoor", sum := "db274814955be044c0e938a20b34cda11cf24cc201c63970e421c5dc0e14779c", func := "sorrel/sorrellaw13.FactsHold", spec := "factsHold", unfollowed := true, recurses := true, named := ["sorrel/runes.letters", "sorrel/runes.zeros"], apart := false, laid := [("sorrel/runes.letters", laid_sorrel_runes_letters), ("sorrel/runes.zeros", laid_sorrel_runes_zeros)] }
def FactsHoldSaid : Prop := factsHoldRow.holds Tryd.pinned (OpenSpec.ofChange factsHoldSpec)

/-- ITS FALSE NEIGHBOUR: 'it returns false'. Refute it at one input. -/
def factsHoldWrong : ChangeSpec := { name := "factsHold", fn := fun _ => fun
  | [d1, d2] => { results := [.lit (.bool false)], args := [d1, d2] }
  | _ => none }
def FactsHoldWrongFalsely : Prop := factsHoldRow.holds Tryd.pinned (OpenSpec.ofChange factsHoldWrong)

/-- 'sorrellaw20.ExtractKeeps': WHATEVER THE INPUT: true; the input reads as it did. -/
def extractKeepsSpec : ChangeSpec := { name := "extractKeeps", fn := fun _ => fun
  | [d1, d2] => { results := [.lit (.bool true)], args := [d1, d2] }
  | _ => none }
def extractKeepsRow : OpenClaim := { program := "ytpboednjlchnhaadoor", sum := "db274814955be044c0e938a20b34cda11cf24cc201c63970e421c5dc0e14779c", func := "sorrel/sorrellaw20.ExtractKeeps", spec := "extractKeeps", unfollowed := true, recurses := true, named := ["sorrel/runes.letters", "sorrel/runes.zeros"], apart := false, laid := [("sorrel/runes.letters", laid_sorrel_runes_letters), ("sorrel/runes.zeros", laid_sorrel_runes_zeros)] }
def ExtractKeepsSaid : Prop := extractKeepsRow.holds Tryd.pinned (OpenSpec.ofChange extractKeepsSpec)

/-- ITS FALSE NEIGHBOUR: 'it returns false'. Refute it at one input. -/
def extractKeepsWrong : ChangeSpec := { name := "extractKeeps", fn := fun _ => fun
  | [d1, d2] => { results := [.lit (.bool false)], args := [d1, d2] }
  | _ => none }
def ExtractKeepsWrongFalsely : Prop := extractKeepsRow.holds Tryd.pinned (OpenSpec.ofChange extractKeepsWrong)

/- THE SECOND FORM. 'bulk': how many values and letters a reading holds, each counted each time it is reached (what is shared counts as often as it is met; a slice's spare places count too). A statement '..UptoSaid' is the law's where the arguments, and the package variables that the reading takes, are together of bulk at most 1048576: NARROWER than '..Said'. Prove '..Said' where nothing that the law and all that it calls make is longer than what came in: it says more and counts as full. Else prove '..UptoSaid'. A law counts once. -/
mutual
def uptoBulk {H : Type} : DataW H → Nat
  | .lit (.string bytes) => bytes.length + 1
  | .lit _ => 1
  | .nil => 1
  | .ptr d => uptoBulk d + 1
  | .slice elems spare => uptoBulkAll elems + uptoBulkAll spare + 1
  | .agg parts => uptoBulkAll parts + 1
  | .iface _ d => uptoBulk d + 1
  | .map entries => uptoBulkEntries entries + 1
  | .held _ => 1
def uptoBulkAll {H : Type} : List (DataW H) → Nat
  | [] => 0
  | d :: r => uptoBulk d + uptoBulkAll r
def uptoBulkEntries {H : Type} : List (Lit × DataW H) → Nat
  | [] => 0
  | x :: r => uptoBulkEntry x + uptoBulkEntries r
def uptoBulkEntry {H : Type} : Lit × DataW H → Nat
  | (.string bytes, d) => bytes.length + uptoBulk d + 1
  | (_, d) => uptoBulk d + 1
 end
def uptoSmall : (H : Type) → List (DataW H) → Bool := fun _ ds => decide (uptoBulkAll ds ≤ 1048576)
def OpenSpec.upto (s : _root_.Go.ChangeSpec) : _root_.Go.OpenSpec := { _root_.Go.OpenSpec.ofChange s with cond := some uptoSmall }

/-- 'sorrellaw13.FactsParts', WHERE WHAT IT READS IS OF BULK AT MOST 1048576: true; the input reads as it did. -/
def factsPartsUptoRow : OpenClaim := { program := "ytpboednjlchnhaadoor", sum := "db274814955be044c0e938a20b34cda11cf24cc201c63970e421c5dc0e14779c", func := "sorrel/sorrellaw13.FactsParts", spec := "factsParts", named := ["sorrel/runes.letters", "sorrel/runes.zeros"], apart := false, laid := [("sorrel/runes.letters", laid_sorrel_runes_letters), ("sorrel/runes.zeros", laid_sorrel_runes_zeros)], narrowed := true }
def FactsPartsUptoSaid : Prop := factsPartsUptoRow.holds Tryd.pinned (OpenSpec.upto factsPartsSpec)

/-- 'sorrellaw13.FactsHold', WHERE WHAT IT READS IS OF BULK AT MOST 1048576: true; the input reads as it did. -/
def factsHoldUptoRow : OpenClaim := { program := "ytpboednjlchnhaadoor", sum := "db274814955be044c0e938a20b34cda11cf24cc201c63970e421c5dc0e14779c", func := "sorrel/sorrellaw13.FactsHold", spec := "factsHold", unfollowed := true, recurses := true, named := ["sorrel/runes.letters", "sorrel/runes.zeros"], apart := false, laid := [("sorrel/runes.letters", laid_sorrel_runes_letters), ("sorrel/runes.zeros", laid_sorrel_runes_zeros)], narrowed := true }
def FactsHoldUptoSaid : Prop := factsHoldUptoRow.holds Tryd.pinned (OpenSpec.upto factsHoldSpec)

/-- 'sorrellaw20.ExtractKeeps', WHERE WHAT IT READS IS OF BULK AT MOST 1048576: true; the input reads as it did. -/
def extractKeepsUptoRow : OpenClaim := { program := "ytpboednjlchnhaadoor", sum := "db274814955be044c0e938a20b34cda11cf24cc201c63970e421c5dc0e14779c", func := "sorrel/sorrellaw20.ExtractKeeps", spec := "extractKeeps", unfollowed := true, recurses := true, named := ["sorrel/runes.letters", "sorrel/runes.zeros"], apart := false, laid := [("sorrel/runes.letters", laid_sorrel_runes_letters), ("sorrel/runes.zeros", laid_sorrel_runes_zeros)], narrowed := true }
def ExtractKeepsUptoSaid : Prop := extractKeepsUptoRow.holds Tryd.pinned (OpenSpec.upto extractKeepsSpec)

end Rows
end Go.Proofs.YtpboednjlchnhaaDoor
