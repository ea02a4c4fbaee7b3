/-
  NARROWER THAN 'FOR EVERY INPUT', by the rows' own cells (each row's printed sentence says how): FilesAsk: laid · FilesLinks: laid · FilesNumbers: laid · FilesPlay: laid · FilesDo: laid · FilesMoves: laid · FilesShow: laid.
  DERIVED. THE GIVEN ROWS OF THIS SEAT. 7 by the template 'for every input the law returns true; each argument reads behind the call as it read before'; 0 by the template 'total and deterministic' (their statements: YtpboohfofodeeaaGreatDoorTotals.lean).
  GIVEN WITH THE SEED: the statements are not yours to turn. If you find one false, say at which input.
  Laid BY PROGRAM, IN A SANDBOX (cutbox-rows.mjs): the forced cells as the released guide's own fill.sh prints them over the translation a6c931fc58b3e8a4… (all of the seat's roots in one cut). By AI agents, Wed Nov 11 2026. No macro, syntax, notation, axiom, sorry.
-/
import Derived.Test.YtpboohfofodeeaaGreatDoorChecked
import GoSem.PinnedTables
import GoSem.Claim
import GoSem.ClaimJoined
import GoSem.ClaimMapViews
import Derived.JoinedTies
import Derived.KernelRfl
namespace Go.Proofs.YtpboohfofodeeaaGreatDoor
/- THE CELL 'sum', in the pinned program and in every row, IS THE sha256 OF THE DUMP (.gsa) THAT YtpboohfofodeeaaGreatDoorProg.lean LOADS. Nothing in Lean hashes anything: it is a label: what it is worth is what the hold of that sum in a sandbox is worth. -/
noncomputable def Tryz.pinned : Pinned := { name := "ytpboohfofodeeaagreatdoor", sum := "a6c931fc58b3e8a49b4d221f7743527d7a30ef441fadedca8939fb4cbb2a9f46", checked := Tryz.checked }
namespace Rows
def none {H : Type} : Left H := { results := [], args := [] }

/- WHAT THE LISTED PACKAGE-LEVEL VARIABLES READ AS WHEN THE CALL BEGINS. Each datum BY PROGRAM (the guide's laid-datum.mjs) off the statement by which the dump's own 'gosem.cut.vars' lays the variable. In a bare row this is a premise. The card (YtpboohfofodeeaaGreatDoorCards.lean) ties it to the program's text. -/
def laid_unicode_utf8_acceptRanges {H : Type} : DataW H := .agg [.agg [.lit (.int .u8 128), .lit (.int .u8 191)], .agg [.lit (.int .u8 160), .lit (.int .u8 191)], .agg [.lit (.int .u8 128), .lit (.int .u8 159)], .agg [.lit (.int .u8 144), .lit (.int .u8 191)], .agg [.lit (.int .u8 128), .lit (.int .u8 143)], .agg [.lit (.int .u8 0), .lit (.int .u8 0)], .agg [.lit (.int .u8 0), .lit (.int .u8 0)], .agg [.lit (.int .u8 0), .lit (.int .u8 0)], .agg [.lit (.int .u8 0), .lit (.int .u8 0)], .agg [.lit (.int .u8 0), .lit (.int .u8 0)], .agg [.lit (.int .u8 0), .lit (.int .u8 0)], .agg [.lit (.int .u8 0), .lit (.int .u8 0)], .agg [.lit (.int .u8 0), .lit (.int .u8 0)], .agg [.lit (.int .u8 0), .lit (.int .u8 0)], .agg [.lit (.int .u8 0), .lit (.int .u8 0)], .agg [.lit (.int .u8 0), .lit (.int .u8 0)]]
/-- One of Go's own tables, pinned by name: the form's constant. -/
def laid_unicode_utf8_first : DataW Unit := Go.Pinned.utf8First

/-- 'coppicelaw16.FilesAsk': WHATEVER THE INPUT: true; the input reads as it did. -/
def filesAskSpec : ChangeSpec := { name := "filesAsk", fn := fun _ => fun
  | [d1, d2] => { results := [.lit (.bool true)], args := [d1, d2] }
  | _ => none }
def filesAskRow : OpenClaim := { program := "ytpboohfofodeeaagreatdoor", sum := "a6c931fc58b3e8a49b4d221f7743527d7a30ef441fadedca8939fb4cbb2a9f46", func := "coppice/coppicelaw16.FilesAsk", spec := "filesAsk", inPlace := ["internal/bytealg.IndexByteString", "internal/bytealg.IndexString", "internal/bytealg.abigen_runtime_cmpstring", "internal/bytealg.CountString", "slices.overlaps[coppice/api.Piece]"], unfollowed := true, recurses := true, named := ["internal/bytealg.MaxLen", "unicode/utf8.first", "unicode/utf8.acceptRanges"], plainKeys := false, apart := false, laid := [("unicode/utf8.acceptRanges", laid_unicode_utf8_acceptRanges), ("unicode/utf8.first", laid_unicode_utf8_first)] }
def FilesAskSaid : Prop := filesAskRow.holds Tryz.pinned (OpenSpec.ofChange filesAskSpec)

/-- ITS FALSE NEIGHBOUR: 'it returns false'. Refute it at one input. -/
def filesAskWrong : ChangeSpec := { name := "filesAsk", fn := fun _ => fun
  | [d1, d2] => { results := [.lit (.bool false)], args := [d1, d2] }
  | _ => none }
def FilesAskWrongFalsely : Prop := filesAskRow.holds Tryz.pinned (OpenSpec.ofChange filesAskWrong)

/-- 'coppicelaw16.FilesLinks': WHATEVER THE INPUT: true; the input reads as it did. -/
def filesLinksSpec : ChangeSpec := { name := "filesLinks", fn := fun _ => fun
  | [d1, d2, d3, d4, d5] => { results := [.lit (.bool true)], args := [d1, d2, d3, d4, d5] }
  | _ => none }
def filesLinksRow : OpenClaim := { program := "ytpboohfofodeeaagreatdoor", sum := "a6c931fc58b3e8a49b4d221f7743527d7a30ef441fadedca8939fb4cbb2a9f46", func := "coppice/coppicelaw16.FilesLinks", spec := "filesLinks", inPlace := ["internal/bytealg.IndexByteString", "internal/bytealg.IndexString", "internal/bytealg.abigen_runtime_cmpstring", "internal/bytealg.CountString", "slices.overlaps[coppice/api.Piece]"], unfollowed := true, recurses := true, named := ["internal/bytealg.MaxLen", "unicode/utf8.first", "unicode/utf8.acceptRanges"], plainKeys := false, apart := false, laid := [("unicode/utf8.acceptRanges", laid_unicode_utf8_acceptRanges), ("unicode/utf8.first", laid_unicode_utf8_first)] }
def FilesLinksSaid : Prop := filesLinksRow.holds Tryz.pinned (OpenSpec.ofChange filesLinksSpec)

/-- ITS FALSE NEIGHBOUR: 'it returns false'. Refute it at one input. -/
def filesLinksWrong : ChangeSpec := { name := "filesLinks", fn := fun _ => fun
  | [d1, d2, d3, d4, d5] => { results := [.lit (.bool false)], args := [d1, d2, d3, d4, d5] }
  | _ => none }
def FilesLinksWrongFalsely : Prop := filesLinksRow.holds Tryz.pinned (OpenSpec.ofChange filesLinksWrong)

/-- 'coppicelaw16.FilesNumbers': WHATEVER THE INPUT: true; the input reads as it did. -/
def filesNumbersSpec : ChangeSpec := { name := "filesNumbers", fn := fun _ => fun
  | [d] => { results := [.lit (.bool true)], args := [d] }
  | _ => none }
def filesNumbersRow : OpenClaim := { program := "ytpboohfofodeeaagreatdoor", sum := "a6c931fc58b3e8a49b4d221f7743527d7a30ef441fadedca8939fb4cbb2a9f46", func := "coppice/coppicelaw16.FilesNumbers", spec := "filesNumbers", inPlace := ["internal/bytealg.IndexByteString", "internal/bytealg.IndexString", "internal/bytealg.abigen_runtime_cmpstring", "internal/bytealg.CountString", "slices.overlaps[coppice/api.Piece]"], unfollowed := true, recurses := true, named := ["internal/bytealg.MaxLen", "unicode/utf8.first", "unicode/utf8.acceptRanges"], plainKeys := false, apart := false, laid := [("unicode/utf8.acceptRanges", laid_unicode_utf8_acceptRanges), ("unicode/utf8.first", laid_unicode_utf8_first)] }
def FilesNumbersSaid : Prop := filesNumbersRow.holds Tryz.pinned (OpenSpec.ofChange filesNumbersSpec)

/-- ITS FALSE NEIGHBOUR: 'it returns false'. Refute it at one input. -/
def filesNumbersWrong : ChangeSpec := { name := "filesNumbers", fn := fun _ => fun
  | [d] => { results := [.lit (.bool false)], args := [d] }
  | _ => none }
def FilesNumbersWrongFalsely : Prop := filesNumbersRow.holds Tryz.pinned (OpenSpec.ofChange filesNumbersWrong)

/-- 'coppicelaw16.FilesPlay': WHATEVER THE INPUT: true; the input reads as it did. -/
def filesPlaySpec : ChangeSpec := { name := "filesPlay", fn := fun _ => fun
  | [d] => { results := [.lit (.bool true)], args := [d] }
  | _ => none }
def filesPlayRow : OpenClaim := { program := "ytpboohfofodeeaagreatdoor", sum := "a6c931fc58b3e8a49b4d221f7743527d7a30ef441fadedca8939fb4cbb2a9f46", func := "coppice/coppicelaw16.FilesPlay", spec := "filesPlay", inPlace := ["internal/bytealg.IndexByteString", "internal/bytealg.IndexString", "internal/bytealg.abigen_runtime_cmpstring", "internal/bytealg.CountString", "slices.overlaps[coppice/api.Piece]"], unfollowed := true, recurses := true, named := ["internal/bytealg.MaxLen", "unicode/utf8.first", "unicode/utf8.acceptRanges"], plainKeys := false, apart := false, laid := [("unicode/utf8.acceptRanges", laid_unicode_utf8_acceptRanges), ("unicode/utf8.first", laid_unicode_utf8_first)] }
def FilesPlaySaid : Prop := filesPlayRow.holds Tryz.pinned (OpenSpec.ofChange filesPlaySpec)

/-- ITS FALSE NEIGHBOUR: 'it returns false'. Refute it at one input. -/
def filesPlayWrong : ChangeSpec := { name := "filesPlay", fn := fun _ => fun
  | [d] => { results := [.lit (.bool false)], args := [d] }
  | _ => none }
def FilesPlayWrongFalsely : Prop := filesPlayRow.holds Tryz.pinned (OpenSpec.ofChange filesPlayWrong)

/-- 'coppicelaw16.FilesDo': WHATEVER THE INPUT: true; the input reads as it did. -/
def filesDoSpec : ChangeSpec := { name := "filesDo", fn := fun _ => fun
  | [d1, d2] => { results := [.lit (.bool true)], args := [d1, d2] }
  | _ => none }
def filesDoRow : OpenClaim := { program := "ytpboohfofodeeaagreatdoor", sum := "a6c931fc58b3e8a49b4d221f7743527d7a30ef441fadedca8939fb4cbb2a9f46", func := "coppice/coppicelaw16.FilesDo", spec := "filesDo", inPlace := ["internal/bytealg.IndexByteString", "internal/bytealg.IndexString", "internal/bytealg.abigen_runtime_cmpstring", "internal/bytealg.CountString", "slices.overlaps[coppice/api.Piece]"], unfollowed := true, recurses := true, named := ["internal/bytealg.MaxLen", "unicode/utf8.first", "unicode/utf8.acceptRanges"], plainKeys := false, apart := false, laid := [("unicode/utf8.acceptRanges", laid_unicode_utf8_acceptRanges), ("unicode/utf8.first", laid_unicode_utf8_first)] }
def FilesDoSaid : Prop := filesDoRow.holds Tryz.pinned (OpenSpec.ofChange filesDoSpec)

/-- ITS FALSE NEIGHBOUR: 'it returns false'. Refute it at one input. -/
def filesDoWrong : ChangeSpec := { name := "filesDo", fn := fun _ => fun
  | [d1, d2] => { results := [.lit (.bool false)], args := [d1, d2] }
  | _ => none }
def FilesDoWrongFalsely : Prop := filesDoRow.holds Tryz.pinned (OpenSpec.ofChange filesDoWrong)

/-- 'coppicelaw16.FilesMoves': WHATEVER THE INPUT: true; the input reads as it did. -/
def filesMovesSpec : ChangeSpec := { name := "filesMoves", fn := fun _ => fun
  | [d1, d2, d3] => { results := [.lit (.bool true)], args := [d1, d2, d3] }
  | _ => none }
def filesMovesRow : OpenClaim := { program := "ytpboohfofodeeaagreatdoor", sum := "a6c931fc58b3e8a49b4d221f7743527d7a30ef441fadedca8939fb4cbb2a9f46", func := "coppice/coppicelaw16.FilesMoves", spec := "filesMoves", inPlace := ["internal/bytealg.IndexByteString", "internal/bytealg.IndexString", "internal/bytealg.abigen_runtime_cmpstring", "internal/bytealg.CountString", "slices.overlaps[coppice/api.Piece]"], unfollowed := true, recurses := true, named := ["internal/bytealg.MaxLen", "unicode/utf8.first", "unicode/utf8.acceptRanges"], plainKeys := false, apart := false, laid := [("unicode/utf8.acceptRanges", laid_unicode_utf8_acceptRanges), ("unicode/utf8.first", laid_unicode_utf8_first)] }
def FilesMovesSaid : Prop := filesMovesRow.holds Tryz.pinned (OpenSpec.ofChange filesMovesSpec)

/-- ITS FALSE NEIGHBOUR: 'it returns false'. Refute it at one input. -/
def filesMovesWrong : ChangeSpec := { name := "filesMoves", fn := fun _ => fun
  | [d1, d2, d3] => { results := [.lit (.bool false)], args := [d1, d2, d3] }
  | _ => none }
def FilesMovesWrongFalsely : Prop := filesMovesRow.holds Tryz.pinned (OpenSpec.ofChange filesMovesWrong)

/-- 'coppicelaw16.FilesShow': WHATEVER THE INPUT: true; the input reads as it did. -/
def filesShowSpec : ChangeSpec := { name := "filesShow", fn := fun _ => fun
  | [d] => { results := [.lit (.bool true)], args := [d] }
  | _ => none }
def filesShowRow : OpenClaim := { program := "ytpboohfofodeeaagreatdoor", sum := "a6c931fc58b3e8a49b4d221f7743527d7a30ef441fadedca8939fb4cbb2a9f46", func := "coppice/coppicelaw16.FilesShow", spec := "filesShow", inPlace := ["internal/bytealg.IndexByteString", "internal/bytealg.IndexString", "internal/bytealg.abigen_runtime_cmpstring", "internal/bytealg.CountString", "slices.overlaps[coppice/api.Piece]"], unfollowed := true, recurses := true, named := ["internal/bytealg.MaxLen", "unicode/utf8.first", "unicode/utf8.acceptRanges"], plainKeys := false, apart := false, laid := [("unicode/utf8.acceptRanges", laid_unicode_utf8_acceptRanges), ("unicode/utf8.first", laid_unicode_utf8_first)] }
def FilesShowSaid : Prop := filesShowRow.holds Tryz.pinned (OpenSpec.ofChange filesShowSpec)

/-- ITS FALSE NEIGHBOUR: 'it returns false'. Refute it at one input. -/
def filesShowWrong : ChangeSpec := { name := "filesShow", fn := fun _ => fun
  | [d] => { results := [.lit (.bool false)], args := [d] }
  | _ => none }
def FilesShowWrongFalsely : Prop := filesShowRow.holds Tryz.pinned (OpenSpec.ofChange filesShowWrong)

/- THE SECOND FORM. 'bulk': how many values and letters a reading holds, each counted each time it is reached (what is shared counts as often as it is met; a slice's spare places count too). A statement '..UptoSaid' is the law's where the arguments, and the package variables that the reading takes, are together of bulk at most 1048576: NARROWER than '..Said'. Prove '..Said' where nothing that the law and all that it calls make is longer than what came in: it says more and counts as full. Else prove '..UptoSaid'. A law counts once. -/
mutual
def uptoBulk {H : Type} : DataW H → Nat
  | .lit (.string bytes) => bytes.length + 1
  | .lit _ => 1
  | .nil => 1
  | .ptr d => uptoBulk d + 1
  | .slice elems spare => uptoBulkAll elems + uptoBulkAll spare + 1
  | .agg parts => uptoBulkAll parts + 1
  | .iface _ d => uptoBulk d + 1
  | .map entries => uptoBulkEntries entries + 1
  | .held _ => 1
def uptoBulkAll {H : Type} : List (DataW H) → Nat
  | [] => 0
  | d :: r => uptoBulk d + uptoBulkAll r
def uptoBulkEntries {H : Type} : List (Lit × DataW H) → Nat
  | [] => 0
  | x :: r => uptoBulkEntry x + uptoBulkEntries r
def uptoBulkEntry {H : Type} : Lit × DataW H → Nat
  | (.string bytes, d) => bytes.length + uptoBulk d + 1
  | (_, d) => uptoBulk d + 1
 end
def uptoSmall : (H : Type) → List (DataW H) → Bool := fun _ ds => decide (uptoBulkAll ds ≤ 1048576)
def OpenSpec.upto (s : _root_.Go.ChangeSpec) : _root_.Go.OpenSpec := { _root_.Go.OpenSpec.ofChange s with cond := some uptoSmall }

/-- 'coppicelaw16.FilesAsk', WHERE WHAT IT READS IS OF BULK AT MOST 1048576: true; the input reads as it did. -/
def filesAskUptoRow : OpenClaim := { program := "ytpboohfofodeeaagreatdoor", sum := "a6c931fc58b3e8a49b4d221f7743527d7a30ef441fadedca8939fb4cbb2a9f46", func := "coppice/coppicelaw16.FilesAsk", spec := "filesAsk", inPlace := ["internal/bytealg.IndexByteString", "internal/bytealg.IndexString", "internal/bytealg.abigen_runtime_cmpstring", "internal/bytealg.CountString", "slices.overlaps[coppice/api.Piece]"], unfollowed := true, recurses := true, named := ["internal/bytealg.MaxLen", "unicode/utf8.first", "unicode/utf8.acceptRanges"], plainKeys := false, apart := false, laid := [("unicode/utf8.acceptRanges", laid_unicode_utf8_acceptRanges), ("unicode/utf8.first", laid_unicode_utf8_first)], narrowed := true }
def FilesAskUptoSaid : Prop := filesAskUptoRow.holds Tryz.pinned (OpenSpec.upto filesAskSpec)

/-- 'coppicelaw16.FilesLinks', WHERE WHAT IT READS IS OF BULK AT MOST 1048576: true; the input reads as it did. -/
def filesLinksUptoRow : OpenClaim := { program := "ytpboohfofodeeaagreatdoor", sum := "a6c931fc58b3e8a49b4d221f7743527d7a30ef441fadedca8939fb4cbb2a9f46", func := "coppice/coppicelaw16.FilesLinks", spec := "filesLinks", inPlace := ["internal/bytealg.IndexByteString", "internal/bytealg.IndexString", "internal/bytealg.abigen_runtime_cmpstring", "internal/bytealg.CountString", "slices.overlaps[coppice/api.Piece]"], unfollowed := true, recurses := true, named := ["internal/bytealg.MaxLen", "unicode/utf8.first", "unicode/utf8.acceptRanges"], plainKeys := false, apart := false, laid := [("unicode/utf8.acceptRanges", laid_unicode_utf8_acceptRanges), ("unicode/utf8.first", laid_unicode_utf8_first)], narrowed := true }
def FilesLinksUptoSaid : Prop := filesLinksUptoRow.holds Tryz.pinned (OpenSpec.upto filesLinksSpec)

/-- 'coppicelaw16.FilesNumbers', WHERE WHAT IT READS IS OF BULK AT MOST 1048576: true; the input reads as it did. -/
def filesNumbersUptoRow : OpenClaim := { program := "ytpboohfofodeeaagreatdoor", sum := "a6c931fc58b3e8a49b4d221f7743527d7a30ef441fadedca8939fb4cbb2a9f46", func := "coppice/coppicelaw16.FilesNumbers", spec := "filesNumbers", inPlace := ["internal/bytealg.IndexByteString", "internal/bytealg.IndexString", "internal/bytealg.abigen_runtime_cmpstring", "internal/bytealg.CountString", "slices.overlaps[coppice/api.Piece]"], unfollowed := true, recurses := true, named := ["internal/bytealg.MaxLen", "unicode/utf8.first", "unicode/utf8.acceptRanges"], plainKeys := false, apart := false, laid := [("unicode/utf8.acceptRanges", laid_unicode_utf8_acceptRanges), ("unicode/utf8.first", laid_unicode_utf8_first)], narrowed := true }
def FilesNumbersUptoSaid : Prop := filesNumbersUptoRow.holds Tryz.pinned (OpenSpec.upto filesNumbersSpec)

/-- 'coppicelaw16.FilesPlay', WHERE WHAT IT READS IS OF BULK AT MOST 1048576: true; the input reads as it did. -/
def filesPlayUptoRow : OpenClaim := { program := "ytpboohfofodeeaagreatdoor", sum := "a6c931fc58b3e8a49b4d221f7743527d7a30ef441fadedca8939fb4cbb2a9f46", func := "coppice/coppicelaw16.FilesPlay", spec := "filesPlay", inPlace := ["internal/bytealg.IndexByteString", "internal/bytealg.IndexString", "internal/bytealg.abigen_runtime_cmpstring", "internal/bytealg.CountString", "slices.overlaps[coppice/api.Piece]"], unfollowed := true, recurses := true, named := ["internal/bytealg.MaxLen", "unicode/utf8.first", "unicode/utf8.acceptRanges"], plainKeys := false, apart := false, laid := [("unicode/utf8.acceptRanges", laid_unicode_utf8_acceptRanges), ("unicode/utf8.first", laid_unicode_utf8_first)], narrowed := true }
def FilesPlayUptoSaid : Prop := filesPlayUptoRow.holds Tryz.pinned (OpenSpec.upto filesPlaySpec)

/-- 'coppicelaw16.FilesDo', WHERE WHAT IT READS IS OF BULK AT MOST 1048576: true; the input reads as it did. -/
def filesDoUptoRow : OpenClaim := { program := "ytpboohfofodeeaagreatdoor", sum := "a6c931fc58b3e8a49b4d221f7743527d7a30ef441fadedca8939fb4cbb2a9f46", func := "coppice/coppicelaw16.FilesDo", spec := "filesDo", inPlace := ["internal/bytealg.IndexByteString", "internal/bytealg.IndexString", "internal/bytealg.abigen_runtime_cmpstring", "internal/bytealg.CountString", "slices.overlaps[coppice/api.Piece]"], unfollowed := true, recurses := true, named := ["internal/bytealg.MaxLen", "unicode/utf8.first", "unicode/utf8.acceptRanges"], plainKeys := false, apart := false, laid := [("unicode/utf8.acceptRanges", laid_unicode_utf8_acceptRanges), ("unicode/utf8.first", laid_unicode_utf8_first)], narrowed := true }
def FilesDoUptoSaid : Prop := filesDoUptoRow.holds Tryz.pinned (OpenSpec.upto filesDoSpec)

/-- 'coppicelaw16.FilesMoves', WHERE WHAT IT READS IS OF BULK AT MOST 1048576: true; the input reads as it did. -/
def filesMovesUptoRow : OpenClaim := { program := "ytpboohfofodeeaagreatdoor", sum := "a6c931fc58b3e8a49b4d221f7743527d7a30ef441fadedca8939fb4cbb2a9f46", func := "coppice/coppicelaw16.FilesMoves", spec := "filesMoves", inPlace := ["internal/bytealg.IndexByteString", "internal/bytealg.IndexString", "internal/bytealg.abigen_runtime_cmpstring", "internal/bytealg.CountString", "slices.overlaps[coppice/api.Piece]"], unfollowed := true, recurses := true, named := ["internal/bytealg.MaxLen", "unicode/utf8.first", "unicode/utf8.acceptRanges"], plainKeys := false, apart := false, laid := [("unicode/utf8.acceptRanges", laid_unicode_utf8_acceptRanges), ("unicode/utf8.first", laid_unicode_utf8_first)], narrowed := true }
def FilesMovesUptoSaid : Prop := filesMovesUptoRow.holds Tryz.pinned (OpenSpec.upto filesMovesSpec)

/-- 'coppicelaw16.FilesShow', WHERE WHAT IT READS IS OF BULK AT MOST 1048576: true; the input reads as it did. -/
def filesShowUptoRow : OpenClaim := { program := "ytpboohfofodeeaagreatdoor", sum := "a6c931fc58b3e8a49b4d221f7743527d7a30ef441fadedca8939fb4cbb2a9f46", func := "coppice/coppicelaw16.FilesShow", spec := "filesShow", inPlace := ["internal/bytealg.IndexByteString", "internal/bytealg.IndexString", "internal/bytealg.abigen_runtime_cmpstring", "internal/bytealg.CountString", "slices.overlaps[coppice/api.Piece]"], unfollowed := true, recurses := true, named := ["internal/bytealg.MaxLen", "unicode/utf8.first", "unicode/utf8.acceptRanges"], plainKeys := false, apart := false, laid := [("unicode/utf8.acceptRanges", laid_unicode_utf8_acceptRanges), ("unicode/utf8.first", laid_unicode_utf8_first)], narrowed := true }
def FilesShowUptoSaid : Prop := filesShowUptoRow.holds Tryz.pinned (OpenSpec.upto filesShowSpec)

end Rows
end Go.Proofs.YtpboohfofodeeaaGreatDoor
