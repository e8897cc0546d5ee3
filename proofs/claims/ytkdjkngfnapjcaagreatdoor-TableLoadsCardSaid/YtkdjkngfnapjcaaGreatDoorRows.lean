/-
  NARROWER THAN 'FOR EVERY INPUT', by the rows' own cells (each row's printed sentence says how): IndexPlays: laid · IndexSame: laid · TableHolders: laid · TableApplies: laid · TableChanges: laid · TableParses: laid · TableLoads: laid.
  DERIVED. THE GIVEN ROWS OF THIS SEAT. 7 by the template 'for every input the law returns true; each argument reads behind the call as it read before'; 0 by the template 'total and deterministic' (their statements: YtkdjkngfnapjcaaGreatDoorTotals.lean).
  GIVEN WITH THE SEED: the statements are not yours to turn. If you find one false, say at which input.
  Laid BY PROGRAM, IN A SANDBOX (cutbox-rows.mjs): the forced cells as the released guide's own fill.sh prints them over the translation d685d86a9fdf9c20… (all of the seat's roots in one cut). By AI agents, Wed Nov 11 2026. No macro, syntax, notation, axiom, sorry.
-/
import Derived.Test.YtkdjkngfnapjcaaGreatDoorChecked
import GoSem.PinnedTables
import GoSem.Claim
import GoSem.ClaimJoined
import GoSem.ClaimMapViews
import Derived.JoinedTies
import Derived.KernelRfl
namespace Go.Proofs.YtkdjkngfnapjcaaGreatDoor
/- THE CELL 'sum', in the pinned program and in every row, IS THE sha256 OF THE DUMP (.gsa) THAT YtkdjkngfnapjcaaGreatDoorProg.lean LOADS. Nothing in Lean hashes anything: it is a label: what it is worth is what the hold of that sum in a sandbox is worth. -/
noncomputable def Tryz.pinned : Pinned := { name := "ytkdjkngfnapjcaagreatdoor", sum := "d685d86a9fdf9c209ec8915e1bea53a747c3b00c0f1a16ad61e6d775f00a9072", checked := Tryz.checked }
namespace Rows
def none {H : Type} : Left H := { results := [], args := [] }

/- WHAT THE LISTED PACKAGE-LEVEL VARIABLES READ AS WHEN THE CALL BEGINS. Each datum BY PROGRAM (the guide's laid-datum.mjs) off the statement by which the dump's own 'gosem.cut.vars' lays the variable. In a bare row this is a premise. The card (YtkdjkngfnapjcaaGreatDoorCards.lean) ties it to the program's text. -/
def laid_unicode_utf8_acceptRanges {H : Type} : DataW H := .agg [.agg [.lit (.int .u8 128), .lit (.int .u8 191)], .agg [.lit (.int .u8 160), .lit (.int .u8 191)], .agg [.lit (.int .u8 128), .lit (.int .u8 159)], .agg [.lit (.int .u8 144), .lit (.int .u8 191)], .agg [.lit (.int .u8 128), .lit (.int .u8 143)], .agg [.lit (.int .u8 0), .lit (.int .u8 0)], .agg [.lit (.int .u8 0), .lit (.int .u8 0)], .agg [.lit (.int .u8 0), .lit (.int .u8 0)], .agg [.lit (.int .u8 0), .lit (.int .u8 0)], .agg [.lit (.int .u8 0), .lit (.int .u8 0)], .agg [.lit (.int .u8 0), .lit (.int .u8 0)], .agg [.lit (.int .u8 0), .lit (.int .u8 0)], .agg [.lit (.int .u8 0), .lit (.int .u8 0)], .agg [.lit (.int .u8 0), .lit (.int .u8 0)], .agg [.lit (.int .u8 0), .lit (.int .u8 0)], .agg [.lit (.int .u8 0), .lit (.int .u8 0)]]
/-- One of Go's own tables, pinned by name: the form's constant. -/
def laid_unicode_utf8_first : DataW Unit := Go.Pinned.utf8First

/-- 'moothilllaw12.IndexPlays': WHATEVER THE INPUT: true; the input reads as it did. -/
def indexPlaysSpec : ChangeSpec := { name := "indexPlays", fn := fun _ => fun
  | [d1, d2, d3] => { results := [.lit (.bool true)], args := [d1, d2, d3] }
  | _ => none }
def indexPlaysRow : OpenClaim := { program := "ytkdjkngfnapjcaagreatdoor", sum := "d685d86a9fdf9c209ec8915e1bea53a747c3b00c0f1a16ad61e6d775f00a9072", func := "moothill/moothilllaw12.IndexPlays", spec := "indexPlays", inPlace := ["internal/bytealg.IndexByteString", "internal/bytealg.IndexString", "internal/abi.NoEscape", "internal/bytealg.MakeNoZero", "internal/bytealg.abigen_runtime_cmpstring"], unfollowed := true, recurses := true, named := ["unicode/utf8.first", "unicode/utf8.acceptRanges", "internal/bytealg.MaxLen"], plainKeys := false, apart := false, laid := [("unicode/utf8.acceptRanges", laid_unicode_utf8_acceptRanges), ("unicode/utf8.first", laid_unicode_utf8_first)] }
def IndexPlaysSaid : Prop := indexPlaysRow.holds Tryz.pinned (OpenSpec.ofChange indexPlaysSpec)

/-- ITS FALSE NEIGHBOUR: 'it returns false'. Refute it at one input. -/
def indexPlaysWrong : ChangeSpec := { name := "indexPlays", fn := fun _ => fun
  | [d1, d2, d3] => { results := [.lit (.bool false)], args := [d1, d2, d3] }
  | _ => none }
def IndexPlaysWrongFalsely : Prop := indexPlaysRow.holds Tryz.pinned (OpenSpec.ofChange indexPlaysWrong)

/-- 'moothilllaw12.IndexSame': WHATEVER THE INPUT: true; the input reads as it did. -/
def indexSameSpec : ChangeSpec := { name := "indexSame", fn := fun _ => fun
  | [d1, d2, d3] => { results := [.lit (.bool true)], args := [d1, d2, d3] }
  | _ => none }
def indexSameRow : OpenClaim := { program := "ytkdjkngfnapjcaagreatdoor", sum := "d685d86a9fdf9c209ec8915e1bea53a747c3b00c0f1a16ad61e6d775f00a9072", func := "moothill/moothilllaw12.IndexSame", spec := "indexSame", inPlace := ["internal/bytealg.IndexByteString", "internal/bytealg.IndexString", "internal/abi.NoEscape", "internal/bytealg.MakeNoZero", "internal/bytealg.abigen_runtime_cmpstring"], unfollowed := true, recurses := true, named := ["unicode/utf8.first", "unicode/utf8.acceptRanges", "internal/bytealg.MaxLen"], plainKeys := false, apart := false, laid := [("unicode/utf8.acceptRanges", laid_unicode_utf8_acceptRanges), ("unicode/utf8.first", laid_unicode_utf8_first)] }
def IndexSameSaid : Prop := indexSameRow.holds Tryz.pinned (OpenSpec.ofChange indexSameSpec)

/-- ITS FALSE NEIGHBOUR: 'it returns false'. Refute it at one input. -/
def indexSameWrong : ChangeSpec := { name := "indexSame", fn := fun _ => fun
  | [d1, d2, d3] => { results := [.lit (.bool false)], args := [d1, d2, d3] }
  | _ => none }
def IndexSameWrongFalsely : Prop := indexSameRow.holds Tryz.pinned (OpenSpec.ofChange indexSameWrong)

/-- 'moothilllaw18.TableHolders': WHATEVER THE INPUT: true; the input reads as it did. -/
def tableHoldersSpec : ChangeSpec := { name := "tableHolders", fn := fun _ => fun
  | [d1, d2, d3, d4] => { results := [.lit (.bool true)], args := [d1, d2, d3, d4] }
  | _ => none }
def tableHoldersRow : OpenClaim := { program := "ytkdjkngfnapjcaagreatdoor", sum := "d685d86a9fdf9c209ec8915e1bea53a747c3b00c0f1a16ad61e6d775f00a9072", func := "moothill/moothilllaw18.TableHolders", spec := "tableHolders", inPlace := ["internal/bytealg.IndexByteString", "internal/bytealg.IndexString", "internal/abi.NoEscape", "internal/bytealg.MakeNoZero", "internal/bytealg.CountString", "internal/bytealg.abigen_runtime_cmpstring"], unfollowed := true, recurses := true, named := ["unicode/utf8.first", "unicode/utf8.acceptRanges", "internal/bytealg.MaxLen"], plainKeys := false, apart := false, laid := [("unicode/utf8.acceptRanges", laid_unicode_utf8_acceptRanges), ("unicode/utf8.first", laid_unicode_utf8_first)] }
def TableHoldersSaid : Prop := tableHoldersRow.holds Tryz.pinned (OpenSpec.ofChange tableHoldersSpec)

/-- ITS FALSE NEIGHBOUR: 'it returns false'. Refute it at one input. -/
def tableHoldersWrong : ChangeSpec := { name := "tableHolders", fn := fun _ => fun
  | [d1, d2, d3, d4] => { results := [.lit (.bool false)], args := [d1, d2, d3, d4] }
  | _ => none }
def TableHoldersWrongFalsely : Prop := tableHoldersRow.holds Tryz.pinned (OpenSpec.ofChange tableHoldersWrong)

/-- 'moothilllaw18.TableApplies': WHATEVER THE INPUT: true; the input reads as it did. -/
def tableAppliesSpec : ChangeSpec := { name := "tableApplies", fn := fun _ => fun
  | [d1, d2] => { results := [.lit (.bool true)], args := [d1, d2] }
  | _ => none }
def tableAppliesRow : OpenClaim := { program := "ytkdjkngfnapjcaagreatdoor", sum := "d685d86a9fdf9c209ec8915e1bea53a747c3b00c0f1a16ad61e6d775f00a9072", func := "moothill/moothilllaw18.TableApplies", spec := "tableApplies", inPlace := ["internal/bytealg.IndexByteString", "internal/bytealg.IndexString", "internal/abi.NoEscape", "internal/bytealg.MakeNoZero", "internal/bytealg.CountString", "internal/bytealg.abigen_runtime_cmpstring"], unfollowed := true, recurses := true, named := ["unicode/utf8.first", "unicode/utf8.acceptRanges", "internal/bytealg.MaxLen"], plainKeys := false, apart := false, laid := [("unicode/utf8.acceptRanges", laid_unicode_utf8_acceptRanges), ("unicode/utf8.first", laid_unicode_utf8_first)] }
def TableAppliesSaid : Prop := tableAppliesRow.holds Tryz.pinned (OpenSpec.ofChange tableAppliesSpec)

/-- ITS FALSE NEIGHBOUR: 'it returns false'. Refute it at one input. -/
def tableAppliesWrong : ChangeSpec := { name := "tableApplies", fn := fun _ => fun
  | [d1, d2] => { results := [.lit (.bool false)], args := [d1, d2] }
  | _ => none }
def TableAppliesWrongFalsely : Prop := tableAppliesRow.holds Tryz.pinned (OpenSpec.ofChange tableAppliesWrong)

/-- 'moothilllaw18.TableChanges': WHATEVER THE INPUT: true; the input reads as it did. -/
def tableChangesSpec : ChangeSpec := { name := "tableChanges", fn := fun _ => fun
  | [d1, d2] => { results := [.lit (.bool true)], args := [d1, d2] }
  | _ => none }
def tableChangesRow : OpenClaim := { program := "ytkdjkngfnapjcaagreatdoor", sum := "d685d86a9fdf9c209ec8915e1bea53a747c3b00c0f1a16ad61e6d775f00a9072", func := "moothill/moothilllaw18.TableChanges", spec := "tableChanges", inPlace := ["internal/bytealg.IndexByteString", "internal/bytealg.IndexString", "internal/abi.NoEscape", "internal/bytealg.MakeNoZero", "internal/bytealg.CountString", "internal/bytealg.abigen_runtime_cmpstring"], unfollowed := true, recurses := true, named := ["unicode/utf8.first", "unicode/utf8.acceptRanges", "internal/bytealg.MaxLen"], plainKeys := false, apart := false, laid := [("unicode/utf8.acceptRanges", laid_unicode_utf8_acceptRanges), ("unicode/utf8.first", laid_unicode_utf8_first)] }
def TableChangesSaid : Prop := tableChangesRow.holds Tryz.pinned (OpenSpec.ofChange tableChangesSpec)

/-- ITS FALSE NEIGHBOUR: 'it returns false'. Refute it at one input. -/
def tableChangesWrong : ChangeSpec := { name := "tableChanges", fn := fun _ => fun
  | [d1, d2] => { results := [.lit (.bool false)], args := [d1, d2] }
  | _ => none }
def TableChangesWrongFalsely : Prop := tableChangesRow.holds Tryz.pinned (OpenSpec.ofChange tableChangesWrong)

/-- 'moothilllaw18.TableParses': WHATEVER THE INPUT: true; the input reads as it did. -/
def tableParsesSpec : ChangeSpec := { name := "tableParses", fn := fun _ => fun
  | [d1, d2] => { results := [.lit (.bool true)], args := [d1, d2] }
  | _ => none }
def tableParsesRow : OpenClaim := { program := "ytkdjkngfnapjcaagreatdoor", sum := "d685d86a9fdf9c209ec8915e1bea53a747c3b00c0f1a16ad61e6d775f00a9072", func := "moothill/moothilllaw18.TableParses", spec := "tableParses", inPlace := ["internal/bytealg.IndexByteString", "internal/bytealg.IndexString", "internal/abi.NoEscape", "internal/bytealg.MakeNoZero", "internal/bytealg.CountString", "internal/bytealg.abigen_runtime_cmpstring"], unfollowed := true, recurses := true, named := ["unicode/utf8.first", "unicode/utf8.acceptRanges", "internal/bytealg.MaxLen"], plainKeys := false, apart := false, laid := [("unicode/utf8.acceptRanges", laid_unicode_utf8_acceptRanges), ("unicode/utf8.first", laid_unicode_utf8_first)] }
def TableParsesSaid : Prop := tableParsesRow.holds Tryz.pinned (OpenSpec.ofChange tableParsesSpec)

/-- ITS FALSE NEIGHBOUR: 'it returns false'. Refute it at one input. -/
def tableParsesWrong : ChangeSpec := { name := "tableParses", fn := fun _ => fun
  | [d1, d2] => { results := [.lit (.bool false)], args := [d1, d2] }
  | _ => none }
def TableParsesWrongFalsely : Prop := tableParsesRow.holds Tryz.pinned (OpenSpec.ofChange tableParsesWrong)

/-- 'moothilllaw18.TableLoads': WHATEVER THE INPUT: true; the input reads as it did. -/
def tableLoadsSpec : ChangeSpec := { name := "tableLoads", fn := fun _ => fun
  | [d1, d2, d3] => { results := [.lit (.bool true)], args := [d1, d2, d3] }
  | _ => none }
def tableLoadsRow : OpenClaim := { program := "ytkdjkngfnapjcaagreatdoor", sum := "d685d86a9fdf9c209ec8915e1bea53a747c3b00c0f1a16ad61e6d775f00a9072", func := "moothill/moothilllaw18.TableLoads", spec := "tableLoads", inPlace := ["internal/bytealg.IndexByteString", "internal/bytealg.IndexString", "internal/abi.NoEscape", "internal/bytealg.MakeNoZero", "internal/bytealg.CountString", "internal/bytealg.abigen_runtime_cmpstring"], unfollowed := true, recurses := true, named := ["unicode/utf8.first", "unicode/utf8.acceptRanges", "internal/bytealg.MaxLen"], plainKeys := false, apart := false, laid := [("unicode/utf8.acceptRanges", laid_unicode_utf8_acceptRanges), ("unicode/utf8.first", laid_unicode_utf8_first)] }
def TableLoadsSaid : Prop := tableLoadsRow.holds Tryz.pinned (OpenSpec.ofChange tableLoadsSpec)

/-- ITS FALSE NEIGHBOUR: 'it returns false'. Refute it at one input. -/
def tableLoadsWrong : ChangeSpec := { name := "tableLoads", fn := fun _ => fun
  | [d1, d2, d3] => { results := [.lit (.bool false)], args := [d1, d2, d3] }
  | _ => none }
def TableLoadsWrongFalsely : Prop := tableLoadsRow.holds Tryz.pinned (OpenSpec.ofChange tableLoadsWrong)

/- THE SECOND FORM. 'bulk': how many values and letters a reading holds, each counted each time it is reached (what is shared counts as often as it is met; a slice's spare places count too). A statement '..UptoSaid' is the law's where the arguments, and the package variables that the reading takes, are together of bulk at most 1048576: NARROWER than '..Said'. Prove '..Said' where nothing that the law and all that it calls make is longer than what came in: it says more and counts as full. Else prove '..UptoSaid'. A law counts once. -/
mutual
def uptoBulk {H : Type} : DataW H → Nat
  | .lit (.string bytes) => bytes.length + 1
  | .lit _ => 1
  | .nil => 1
  | .ptr d => uptoBulk d + 1
  | .slice elems spare => uptoBulkAll elems + uptoBulkAll spare + 1
  | .agg parts => uptoBulkAll parts + 1
  | .iface _ d => uptoBulk d + 1
  | .map entries => uptoBulkEntries entries + 1
  | .held _ => 1
def uptoBulkAll {H : Type} : List (DataW H) → Nat
  | [] => 0
  | d :: r => uptoBulk d + uptoBulkAll r
def uptoBulkEntries {H : Type} : List (Lit × DataW H) → Nat
  | [] => 0
  | x :: r => uptoBulkEntry x + uptoBulkEntries r
def uptoBulkEntry {H : Type} : Lit × DataW H → Nat
  | (.string bytes, d) => bytes.length + uptoBulk d + 1
  | (_, d) => uptoBulk d + 1
 end
def uptoSmall : (H : Type) → List (DataW H) → Bool := fun _ ds => decide (uptoBulkAll ds ≤ 1048576)
def OpenSpec.upto (s : _root_.Go.ChangeSpec) : _root_.Go.OpenSpec := { _root_.Go.OpenSpec.ofChange s with cond := some uptoSmall }

/-- 'moothilllaw12.IndexPlays', WHERE WHAT IT READS IS OF BULK AT MOST 1048576: true; the input reads as it did. -/
def indexPlaysUptoRow : OpenClaim := { program := "ytkdjkngfnapjcaagreatdoor", sum := "d685d86a9fdf9c209ec8915e1bea53a747c3b00c0f1a16ad61e6d775f00a9072", func := "moothill/moothilllaw12.IndexPlays", spec := "indexPlays", inPlace := ["internal/bytealg.IndexByteString", "internal/bytealg.IndexString", "internal/abi.NoEscape", "internal/bytealg.MakeNoZero", "internal/bytealg.abigen_runtime_cmpstring"], unfollowed := true, recurses := true, named := ["unicode/utf8.first", "unicode/utf8.acceptRanges", "internal/bytealg.MaxLen"], plainKeys := false, apart := false, laid := [("unicode/utf8.acceptRanges", laid_unicode_utf8_acceptRanges), ("unicode/utf8.first", laid_unicode_utf8_first)], narrowed := true }
def IndexPlaysUptoSaid : Prop := indexPlaysUptoRow.holds Tryz.pinned (OpenSpec.upto indexPlaysSpec)

/-- 'moothilllaw12.IndexSame', WHERE WHAT IT READS IS OF BULK AT MOST 1048576: true; the input reads as it did. -/
def indexSameUptoRow : OpenClaim := { program := "ytkdjkngfnapjcaagreatdoor", sum := "d685d86a9fdf9c209ec8915e1bea53a747c3b00c0f1a16ad61e6d775f00a9072", func := "moothill/moothilllaw12.IndexSame", spec := "indexSame", inPlace := ["internal/bytealg.IndexByteString", "internal/bytealg.IndexString", "internal/abi.NoEscape", "internal/bytealg.MakeNoZero", "internal/bytealg.abigen_runtime_cmpstring"], unfollowed := true, recurses := true, named := ["unicode/utf8.first", "unicode/utf8.acceptRanges", "internal/bytealg.MaxLen"], plainKeys := false, apart := false, laid := [("unicode/utf8.acceptRanges", laid_unicode_utf8_acceptRanges), ("unicode/utf8.first", laid_unicode_utf8_first)], narrowed := true }
def IndexSameUptoSaid : Prop := indexSameUptoRow.holds Tryz.pinned (OpenSpec.upto indexSameSpec)

/-- 'moothilllaw18.TableHolders', WHERE WHAT IT READS IS OF BULK AT MOST 1048576: true; the input reads as it did. -/
def tableHoldersUptoRow : OpenClaim := { program := "ytkdjkngfnapjcaagreatdoor", sum := "d685d86a9fdf9c209ec8915e1bea53a747c3b00c0f1a16ad61e6d775f00a9072", func := "moothill/moothilllaw18.TableHolders", spec := "tableHolders", inPlace := ["internal/bytealg.IndexByteString", "internal/bytealg.IndexString", "internal/abi.NoEscape", "internal/bytealg.MakeNoZero", "internal/bytealg.CountString", "internal/bytealg.abigen_runtime_cmpstring"], unfollowed := true, recurses := true, named := ["unicode/utf8.first", "unicode/utf8.acceptRanges", "internal/bytealg.MaxLen"], plainKeys := false, apart := false, laid := [("unicode/utf8.acceptRanges", laid_unicode_utf8_acceptRanges), ("unicode/utf8.first", laid_unicode_utf8_first)], narrowed := true }
def TableHoldersUptoSaid : Prop := tableHoldersUptoRow.holds Tryz.pinned (OpenSpec.upto tableHoldersSpec)

/-- 'moothilllaw18.TableApplies', WHERE WHAT IT READS IS OF BULK AT MOST 1048576: true; the input reads as it did. -/
def tableAppliesUptoRow : OpenClaim := { program := "ytkdjkngfnapjcaagreatdoor", sum := "d685d86a9fdf9c209ec8915e1bea53a747c3b00c0f1a16ad61e6d775f00a9072", func := "moothill/moothilllaw18.TableApplies", spec := "tableApplies", inPlace := ["internal/bytealg.IndexByteString", "internal/bytealg.IndexString", "internal/abi.NoEscape", "internal/bytealg.MakeNoZero", "internal/bytealg.CountString", "internal/bytealg.abigen_runtime_cmpstring"], unfollowed := true, recurses := true, named := ["unicode/utf8.first", "unicode/utf8.acceptRanges", "internal/bytealg.MaxLen"], plainKeys := false, apart := false, laid := [("unicode/utf8.acceptRanges", laid_unicode_utf8_acceptRanges), ("unicode/utf8.first", laid_unicode_utf8_first)], narrowed := true }
def TableAppliesUptoSaid : Prop := tableAppliesUptoRow.holds Tryz.pinned (OpenSpec.upto tableAppliesSpec)

/-- 'moothilllaw18.TableChanges', WHERE WHAT IT READS IS OF BULK AT MOST 1048576: true; the input reads as it did. -/
def tableChangesUptoRow : OpenClaim := { program := "ytkdjkngfnapjcaagreatdoor", sum := "d685d86a9fdf9c209ec8915e1bea53a747c3b00c0f1a16ad61e6d775f00a9072", func := "moothill/moothilllaw18.TableChanges", spec := "tableChanges", inPlace := ["internal/bytealg.IndexByteString", "internal/bytealg.IndexString", "internal/abi.NoEscape", "internal/bytealg.MakeNoZero", "internal/bytealg.CountString", "internal/bytealg.abigen_runtime_cmpstring"], unfollowed := true, recurses := true, named := ["unicode/utf8.first", "unicode/utf8.acceptRanges", "internal/bytealg.MaxLen"], plainKeys := false, apart := false, laid := [("unicode/utf8.acceptRanges", laid_unicode_utf8_acceptRanges), ("unicode/utf8.first", laid_unicode_utf8_first)], narrowed := true }
def TableChangesUptoSaid : Prop := tableChangesUptoRow.holds Tryz.pinned (OpenSpec.upto tableChangesSpec)

/-- 'moothilllaw18.TableParses', WHERE WHAT IT READS IS OF BULK AT MOST 1048576: true; the input reads as it did. -/
def tableParsesUptoRow : OpenClaim := { program := "ytkdjkngfnapjcaagreatdoor", sum := "d685d86a9fdf9c209ec8915e1bea53a747c3b00c0f1a16ad61e6d775f00a9072", func := "moothill/moothilllaw18.TableParses", spec := "tableParses", inPlace := ["internal/bytealg.IndexByteString", "internal/bytealg.IndexString", "internal/abi.NoEscape", "internal/bytealg.MakeNoZero", "internal/bytealg.CountString", "internal/bytealg.abigen_runtime_cmpstring"], unfollowed := true, recurses := true, named := ["unicode/utf8.first", "unicode/utf8.acceptRanges", "internal/bytealg.MaxLen"], plainKeys := false, apart := false, laid := [("unicode/utf8.acceptRanges", laid_unicode_utf8_acceptRanges), ("unicode/utf8.first", laid_unicode_utf8_first)], narrowed := true }
def TableParsesUptoSaid : Prop := tableParsesUptoRow.holds Tryz.pinned (OpenSpec.upto tableParsesSpec)

/-- 'moothilllaw18.TableLoads', WHERE WHAT IT READS IS OF BULK AT MOST 1048576: true; the input reads as it did. -/
def tableLoadsUptoRow : OpenClaim := { program := "ytkdjkngfnapjcaagreatdoor", sum := "d685d86a9fdf9c209ec8915e1bea53a747c3b00c0f1a16ad61e6d775f00a9072", func := "moothill/moothilllaw18.TableLoads", spec := "tableLoads", inPlace := ["internal/bytealg.IndexByteString", "internal/bytealg.IndexString", "internal/abi.NoEscape", "internal/bytealg.MakeNoZero", "internal/bytealg.CountString", "internal/bytealg.abigen_runtime_cmpstring"], unfollowed := true, recurses := true, named := ["unicode/utf8.first", "unicode/utf8.acceptRanges", "internal/bytealg.MaxLen"], plainKeys := false, apart := false, laid := [("unicode/utf8.acceptRanges", laid_unicode_utf8_acceptRanges), ("unicode/utf8.first", laid_unicode_utf8_first)], narrowed := true }
def TableLoadsUptoSaid : Prop := tableLoadsUptoRow.holds Tryz.pinned (OpenSpec.upto tableLoadsSpec)

end Rows
end Go.Proofs.YtkdjkngfnapjcaaGreatDoor
