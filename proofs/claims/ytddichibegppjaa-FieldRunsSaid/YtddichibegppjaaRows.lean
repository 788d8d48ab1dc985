/-
  No cell of these rows narrows 'for every input' (looked for: loops, veiled, ifaces, maps, wideKeys, modest, calm, conditions, laid).
  DERIVED. THE GIVEN ROWS OF THIS SEAT. 12 by the template 'for every input the law returns true; each argument reads behind the call as it read before'; 0 by the template 'total and deterministic' (their statements: YtddichibegppjaaTotals.lean).
  GIVEN WITH THE SEED: the statements are not yours to turn. If you find one false, say at which input.
  Laid BY PROGRAM, IN A SANDBOX (cutbox-rows.mjs): the forced cells as the released guide's own fill.sh prints them over the translation a3b4e7f24f470ad8… (all of the seat's roots in one cut). By AI agents, Wed Nov 11 2026. No macro, syntax, notation, axiom, sorry.
-/
import Derived.Test.YtddichibegppjaaChecked
import GoSem.Claim
import GoSem.ClaimJoined
import GoSem.ClaimMapViews
import Derived.JoinedTies
import Derived.KernelRfl
namespace Go.Proofs.Ytddichibegppjaa
/- THE CELL 'sum', in the pinned program and in every row, IS THE sha256 OF THE DUMP (.gsa) THAT YtddichibegppjaaProg.lean LOADS. Nothing in Lean hashes anything: it is a label: what it is worth is what the hold of that sum in a sandbox is worth. -/
noncomputable def Try.pinned : Pinned := { name := "ytddichibegppjaa", sum := "a3b4e7f24f470ad887c071fb00b51fe34a3830e2e53d2df90d1d937773e17e41", checked := Try.checked }
namespace Rows
def none {H : Type} : Left H := { results := [], args := [] }

/-- 'tedderlaw11.WordsSubstr': WHATEVER THE INPUT: true; the input reads as it did. -/
def wordsSubstrSpec : ChangeSpec := { name := "wordsSubstr", fn := fun _ => fun
  | [d1, d2, d3] => { results := [.lit (.bool true)], args := [d1, d2, d3] }
  | _ => none }
def wordsSubstrRow : OpenClaim := { program := "ytddichibegppjaa", sum := "a3b4e7f24f470ad887c071fb00b51fe34a3830e2e53d2df90d1d937773e17e41", func := "tedder/tedderlaw11.WordsSubstr", spec := "wordsSubstr", inPlace := ["internal/abi.NoEscape", "math.RoundToEven", "math.Float64frombits"], recurses := true, apart := false }
def WordsSubstrSaid : Prop := wordsSubstrRow.holds Try.pinned (OpenSpec.ofChange wordsSubstrSpec)

/-- ITS FALSE NEIGHBOUR: 'it returns false'. Refute it at one input. -/
def wordsSubstrWrong : ChangeSpec := { name := "wordsSubstr", fn := fun _ => fun
  | [d1, d2, d3] => { results := [.lit (.bool false)], args := [d1, d2, d3] }
  | _ => none }
def WordsSubstrWrongFalsely : Prop := wordsSubstrRow.holds Try.pinned (OpenSpec.ofChange wordsSubstrWrong)

/-- 'tedderlaw11.WordsSubs': WHATEVER THE INPUT: true; the input reads as it did. -/
def wordsSubsSpec : ChangeSpec := { name := "wordsSubs", fn := fun _ => fun
  | [d] => { results := [.lit (.bool true)], args := [d] }
  | _ => none }
def wordsSubsRow : OpenClaim := { program := "ytddichibegppjaa", sum := "a3b4e7f24f470ad887c071fb00b51fe34a3830e2e53d2df90d1d937773e17e41", func := "tedder/tedderlaw11.WordsSubs", spec := "wordsSubs", inPlace := ["internal/abi.NoEscape", "math.RoundToEven", "math.Float64frombits"], recurses := true, apart := false }
def WordsSubsSaid : Prop := wordsSubsRow.holds Try.pinned (OpenSpec.ofChange wordsSubsSpec)

/-- ITS FALSE NEIGHBOUR: 'it returns false'. Refute it at one input. -/
def wordsSubsWrong : ChangeSpec := { name := "wordsSubs", fn := fun _ => fun
  | [d] => { results := [.lit (.bool false)], args := [d] }
  | _ => none }
def WordsSubsWrongFalsely : Prop := wordsSubsRow.holds Try.pinned (OpenSpec.ofChange wordsSubsWrong)

/-- 'tedderlaw11.WordsStay': WHATEVER THE INPUT: true; the input reads as it did. -/
def wordsStaySpec : ChangeSpec := { name := "wordsStay", fn := fun _ => fun
  | [d] => { results := [.lit (.bool true)], args := [d] }
  | _ => none }
def wordsStayRow : OpenClaim := { program := "ytddichibegppjaa", sum := "a3b4e7f24f470ad887c071fb00b51fe34a3830e2e53d2df90d1d937773e17e41", func := "tedder/tedderlaw11.WordsStay", spec := "wordsStay", inPlace := ["internal/abi.NoEscape", "math.RoundToEven", "math.Float64frombits"], recurses := true, apart := false }
def WordsStaySaid : Prop := wordsStayRow.holds Try.pinned (OpenSpec.ofChange wordsStaySpec)

/-- ITS FALSE NEIGHBOUR: 'it returns false'. Refute it at one input. -/
def wordsStayWrong : ChangeSpec := { name := "wordsStay", fn := fun _ => fun
  | [d] => { results := [.lit (.bool false)], args := [d] }
  | _ => none }
def WordsStayWrongFalsely : Prop := wordsStayRow.holds Try.pinned (OpenSpec.ofChange wordsStayWrong)

/-- 'tedderlaw11.WordsMatch': WHATEVER THE INPUT: true; the input reads as it did. -/
def wordsMatchSpec : ChangeSpec := { name := "wordsMatch", fn := fun _ => fun
  | [d] => { results := [.lit (.bool true)], args := [d] }
  | _ => none }
def wordsMatchRow : OpenClaim := { program := "ytddichibegppjaa", sum := "a3b4e7f24f470ad887c071fb00b51fe34a3830e2e53d2df90d1d937773e17e41", func := "tedder/tedderlaw11.WordsMatch", spec := "wordsMatch", inPlace := ["internal/abi.NoEscape", "math.RoundToEven", "math.Float64frombits"], recurses := true, apart := false }
def WordsMatchSaid : Prop := wordsMatchRow.holds Try.pinned (OpenSpec.ofChange wordsMatchSpec)

/-- ITS FALSE NEIGHBOUR: 'it returns false'. Refute it at one input. -/
def wordsMatchWrong : ChangeSpec := { name := "wordsMatch", fn := fun _ => fun
  | [d] => { results := [.lit (.bool false)], args := [d] }
  | _ => none }
def WordsMatchWrongFalsely : Prop := wordsMatchRow.holds Try.pinned (OpenSpec.ofChange wordsMatchWrong)

/-- 'tedderlaw04.MatchFinds': WHATEVER THE INPUT: true; the input reads as it did. -/
def matchFindsSpec : ChangeSpec := { name := "matchFinds", fn := fun _ => fun
  | [d1, d2, d3] => { results := [.lit (.bool true)], args := [d1, d2, d3] }
  | _ => none }
def matchFindsRow : OpenClaim := { program := "ytddichibegppjaa", sum := "a3b4e7f24f470ad887c071fb00b51fe34a3830e2e53d2df90d1d937773e17e41", func := "tedder/tedderlaw04.MatchFinds", spec := "matchFinds", inPlace := ["internal/bytealg.IndexByteString", "internal/bytealg.IndexString"], unfollowed := true, recurses := true, named := ["internal/bytealg.MaxLen"], apart := false }
def MatchFindsSaid : Prop := matchFindsRow.holds Try.pinned (OpenSpec.ofChange matchFindsSpec)

/-- ITS FALSE NEIGHBOUR: 'it returns false'. Refute it at one input. -/
def matchFindsWrong : ChangeSpec := { name := "matchFinds", fn := fun _ => fun
  | [d1, d2, d3] => { results := [.lit (.bool false)], args := [d1, d2, d3] }
  | _ => none }
def MatchFindsWrongFalsely : Prop := matchFindsRow.holds Try.pinned (OpenSpec.ofChange matchFindsWrong)

/-- 'tedderlaw04.MatchWholes': WHATEVER THE INPUT: true; the input reads as it did. -/
def matchWholesSpec : ChangeSpec := { name := "matchWholes", fn := fun _ => fun
  | [d1, d2] => { results := [.lit (.bool true)], args := [d1, d2] }
  | _ => none }
def matchWholesRow : OpenClaim := { program := "ytddichibegppjaa", sum := "a3b4e7f24f470ad887c071fb00b51fe34a3830e2e53d2df90d1d937773e17e41", func := "tedder/tedderlaw04.MatchWholes", spec := "matchWholes", inPlace := ["internal/bytealg.IndexByteString", "internal/bytealg.IndexString"], unfollowed := true, recurses := true, named := ["internal/bytealg.MaxLen"], apart := false }
def MatchWholesSaid : Prop := matchWholesRow.holds Try.pinned (OpenSpec.ofChange matchWholesSpec)

/-- ITS FALSE NEIGHBOUR: 'it returns false'. Refute it at one input. -/
def matchWholesWrong : ChangeSpec := { name := "matchWholes", fn := fun _ => fun
  | [d1, d2] => { results := [.lit (.bool false)], args := [d1, d2] }
  | _ => none }
def MatchWholesWrongFalsely : Prop := matchWholesRow.holds Try.pinned (OpenSpec.ofChange matchWholesWrong)

/-- 'tedderlaw04.MatchLaws': WHATEVER THE INPUT: true; the input reads as it did. -/
def matchLawsSpec : ChangeSpec := { name := "matchLaws", fn := fun _ => fun
  | [d1, d2, d3] => { results := [.lit (.bool true)], args := [d1, d2, d3] }
  | _ => none }
def matchLawsRow : OpenClaim := { program := "ytddichibegppjaa", sum := "a3b4e7f24f470ad887c071fb00b51fe34a3830e2e53d2df90d1d937773e17e41", func := "tedder/tedderlaw04.MatchLaws", spec := "matchLaws", inPlace := ["internal/bytealg.IndexByteString", "internal/bytealg.IndexString"], unfollowed := true, recurses := true, named := ["internal/bytealg.MaxLen"], apart := false }
def MatchLawsSaid : Prop := matchLawsRow.holds Try.pinned (OpenSpec.ofChange matchLawsSpec)

/-- ITS FALSE NEIGHBOUR: 'it returns false'. Refute it at one input. -/
def matchLawsWrong : ChangeSpec := { name := "matchLaws", fn := fun _ => fun
  | [d1, d2, d3] => { results := [.lit (.bool false)], args := [d1, d2, d3] }
  | _ => none }
def MatchLawsWrongFalsely : Prop := matchLawsRow.holds Try.pinned (OpenSpec.ofChange matchLawsWrong)

/-- 'tedderlaw04.MatchLeft': WHATEVER THE INPUT: true; the input reads as it did. -/
def matchLeftSpec : ChangeSpec := { name := "matchLeft", fn := fun _ => fun
  | [d1, d2, d3] => { results := [.lit (.bool true)], args := [d1, d2, d3] }
  | _ => none }
def matchLeftRow : OpenClaim := { program := "ytddichibegppjaa", sum := "a3b4e7f24f470ad887c071fb00b51fe34a3830e2e53d2df90d1d937773e17e41", func := "tedder/tedderlaw04.MatchLeft", spec := "matchLeft", inPlace := ["internal/bytealg.IndexByteString", "internal/bytealg.IndexString"], unfollowed := true, recurses := true, named := ["internal/bytealg.MaxLen"], apart := false }
def MatchLeftSaid : Prop := matchLeftRow.holds Try.pinned (OpenSpec.ofChange matchLeftSpec)

/-- ITS FALSE NEIGHBOUR: 'it returns false'. Refute it at one input. -/
def matchLeftWrong : ChangeSpec := { name := "matchLeft", fn := fun _ => fun
  | [d1, d2, d3] => { results := [.lit (.bool false)], args := [d1, d2, d3] }
  | _ => none }
def MatchLeftWrongFalsely : Prop := matchLeftRow.holds Try.pinned (OpenSpec.ofChange matchLeftWrong)

/-- 'tedderlaw10.FieldSplits': WHATEVER THE INPUT: true; the input reads as it did. -/
def fieldSplitsSpec : ChangeSpec := { name := "fieldSplits", fn := fun _ => fun
  | [d1, d2, d3] => { results := [.lit (.bool true)], args := [d1, d2, d3] }
  | _ => none }
def fieldSplitsRow : OpenClaim := { program := "ytddichibegppjaa", sum := "a3b4e7f24f470ad887c071fb00b51fe34a3830e2e53d2df90d1d937773e17e41", func := "tedder/tedderlaw10.FieldSplits", spec := "fieldSplits", inPlace := ["internal/bytealg.IndexByteString", "internal/bytealg.IndexString", "internal/abi.NoEscape", "internal/bytealg.MakeNoZero"], unfollowed := true, recurses := true, named := ["internal/bytealg.MaxLen"], apart := false }
def FieldSplitsSaid : Prop := fieldSplitsRow.holds Try.pinned (OpenSpec.ofChange fieldSplitsSpec)

/-- ITS FALSE NEIGHBOUR: 'it returns false'. Refute it at one input. -/
def fieldSplitsWrong : ChangeSpec := { name := "fieldSplits", fn := fun _ => fun
  | [d1, d2, d3] => { results := [.lit (.bool false)], args := [d1, d2, d3] }
  | _ => none }
def FieldSplitsWrongFalsely : Prop := fieldSplitsRow.holds Try.pinned (OpenSpec.ofChange fieldSplitsWrong)

/-- 'tedderlaw10.FieldBack': WHATEVER THE INPUT: true; the input reads as it did. -/
def fieldBackSpec : ChangeSpec := { name := "fieldBack", fn := fun _ => fun
  | [d1, d2] => { results := [.lit (.bool true)], args := [d1, d2] }
  | _ => none }
def fieldBackRow : OpenClaim := { program := "ytddichibegppjaa", sum := "a3b4e7f24f470ad887c071fb00b51fe34a3830e2e53d2df90d1d937773e17e41", func := "tedder/tedderlaw10.FieldBack", spec := "fieldBack", inPlace := ["internal/bytealg.IndexByteString", "internal/bytealg.IndexString", "internal/abi.NoEscape", "internal/bytealg.MakeNoZero"], unfollowed := true, recurses := true, named := ["internal/bytealg.MaxLen"], apart := false }
def FieldBackSaid : Prop := fieldBackRow.holds Try.pinned (OpenSpec.ofChange fieldBackSpec)

/-- ITS FALSE NEIGHBOUR: 'it returns false'. Refute it at one input. -/
def fieldBackWrong : ChangeSpec := { name := "fieldBack", fn := fun _ => fun
  | [d1, d2] => { results := [.lit (.bool false)], args := [d1, d2] }
  | _ => none }
def FieldBackWrongFalsely : Prop := fieldBackRow.holds Try.pinned (OpenSpec.ofChange fieldBackWrong)

/-- 'tedderlaw10.FieldBlanks': WHATEVER THE INPUT: true; the input reads as it did. -/
def fieldBlanksSpec : ChangeSpec := { name := "fieldBlanks", fn := fun _ => fun
  | [d] => { results := [.lit (.bool true)], args := [d] }
  | _ => none }
def fieldBlanksRow : OpenClaim := { program := "ytddichibegppjaa", sum := "a3b4e7f24f470ad887c071fb00b51fe34a3830e2e53d2df90d1d937773e17e41", func := "tedder/tedderlaw10.FieldBlanks", spec := "fieldBlanks", inPlace := ["internal/bytealg.IndexByteString", "internal/bytealg.IndexString", "internal/abi.NoEscape", "internal/bytealg.MakeNoZero"], unfollowed := true, recurses := true, named := ["internal/bytealg.MaxLen"], apart := false }
def FieldBlanksSaid : Prop := fieldBlanksRow.holds Try.pinned (OpenSpec.ofChange fieldBlanksSpec)

/-- ITS FALSE NEIGHBOUR: 'it returns false'. Refute it at one input. -/
def fieldBlanksWrong : ChangeSpec := { name := "fieldBlanks", fn := fun _ => fun
  | [d] => { results := [.lit (.bool false)], args := [d] }
  | _ => none }
def FieldBlanksWrongFalsely : Prop := fieldBlanksRow.holds Try.pinned (OpenSpec.ofChange fieldBlanksWrong)

/-- 'tedderlaw10.FieldRuns': WHATEVER THE INPUT: true; the input reads as it did. -/
def fieldRunsSpec : ChangeSpec := { name := "fieldRuns", fn := fun _ => fun
  | [d1, d2, d3] => { results := [.lit (.bool true)], args := [d1, d2, d3] }
  | _ => none }
def fieldRunsRow : OpenClaim := { program := "ytddichibegppjaa", sum := "a3b4e7f24f470ad887c071fb00b51fe34a3830e2e53d2df90d1d937773e17e41", func := "tedder/tedderlaw10.FieldRuns", spec := "fieldRuns", inPlace := ["internal/bytealg.IndexByteString", "internal/bytealg.IndexString", "internal/abi.NoEscape", "internal/bytealg.MakeNoZero"], unfollowed := true, recurses := true, named := ["internal/bytealg.MaxLen"], apart := false }
def FieldRunsSaid : Prop := fieldRunsRow.holds Try.pinned (OpenSpec.ofChange fieldRunsSpec)

/-- ITS FALSE NEIGHBOUR: 'it returns false'. Refute it at one input. -/
def fieldRunsWrong : ChangeSpec := { name := "fieldRuns", fn := fun _ => fun
  | [d1, d2, d3] => { results := [.lit (.bool false)], args := [d1, d2, d3] }
  | _ => none }
def FieldRunsWrongFalsely : Prop := fieldRunsRow.holds Try.pinned (OpenSpec.ofChange fieldRunsWrong)

/- THE SECOND FORM. 'bulk': how many values and letters a reading holds, each counted each time it is reached (what is shared counts as often as it is met; a slice's spare places count too). A statement '..UptoSaid' is the law's where the arguments, and the package variables that the reading takes, are together of bulk at most 1048576: NARROWER than '..Said'. Prove '..Said' where nothing that the law and all that it calls make is longer than what came in: it says more and counts as full. Else prove '..UptoSaid'. A law counts once. -/
mutual
def uptoBulk {H : Type} : DataW H → Nat
  | .lit (.string bytes) => bytes.length + 1
  | .lit _ => 1
  | .nil => 1
  | .ptr d => uptoBulk d + 1
  | .slice elems spare => uptoBulkAll elems + uptoBulkAll spare + 1
  | .agg parts => uptoBulkAll parts + 1
  | .iface _ d => uptoBulk d + 1
  | .map entries => uptoBulkEntries entries + 1
  | .held _ => 1
def uptoBulkAll {H : Type} : List (DataW H) → Nat
  | [] => 0
  | d :: r => uptoBulk d + uptoBulkAll r
def uptoBulkEntries {H : Type} : List (Lit × DataW H) → Nat
  | [] => 0
  | x :: r => uptoBulkEntry x + uptoBulkEntries r
def uptoBulkEntry {H : Type} : Lit × DataW H → Nat
  | (.string bytes, d) => bytes.length + uptoBulk d + 1
  | (_, d) => uptoBulk d + 1
 end
def uptoSmall : (H : Type) → List (DataW H) → Bool := fun _ ds => decide (uptoBulkAll ds ≤ 1048576)
def OpenSpec.upto (s : _root_.Go.ChangeSpec) : _root_.Go.OpenSpec := { _root_.Go.OpenSpec.ofChange s with cond := some uptoSmall }

/-- 'tedderlaw11.WordsSubstr', WHERE WHAT IT READS IS OF BULK AT MOST 1048576: true; the input reads as it did. -/
def wordsSubstrUptoRow : OpenClaim := { program := "ytddichibegppjaa", sum := "a3b4e7f24f470ad887c071fb00b51fe34a3830e2e53d2df90d1d937773e17e41", func := "tedder/tedderlaw11.WordsSubstr", spec := "wordsSubstr", inPlace := ["internal/abi.NoEscape", "math.RoundToEven", "math.Float64frombits"], recurses := true, apart := false, narrowed := true }
def WordsSubstrUptoSaid : Prop := wordsSubstrUptoRow.holds Try.pinned (OpenSpec.upto wordsSubstrSpec)

/-- 'tedderlaw11.WordsSubs', WHERE WHAT IT READS IS OF BULK AT MOST 1048576: true; the input reads as it did. -/
def wordsSubsUptoRow : OpenClaim := { program := "ytddichibegppjaa", sum := "a3b4e7f24f470ad887c071fb00b51fe34a3830e2e53d2df90d1d937773e17e41", func := "tedder/tedderlaw11.WordsSubs", spec := "wordsSubs", inPlace := ["internal/abi.NoEscape", "math.RoundToEven", "math.Float64frombits"], recurses := true, apart := false, narrowed := true }
def WordsSubsUptoSaid : Prop := wordsSubsUptoRow.holds Try.pinned (OpenSpec.upto wordsSubsSpec)

/-- 'tedderlaw11.WordsStay', WHERE WHAT IT READS IS OF BULK AT MOST 1048576: true; the input reads as it did. -/
def wordsStayUptoRow : OpenClaim := { program := "ytddichibegppjaa", sum := "a3b4e7f24f470ad887c071fb00b51fe34a3830e2e53d2df90d1d937773e17e41", func := "tedder/tedderlaw11.WordsStay", spec := "wordsStay", inPlace := ["internal/abi.NoEscape", "math.RoundToEven", "math.Float64frombits"], recurses := true, apart := false, narrowed := true }
def WordsStayUptoSaid : Prop := wordsStayUptoRow.holds Try.pinned (OpenSpec.upto wordsStaySpec)

/-- 'tedderlaw11.WordsMatch', WHERE WHAT IT READS IS OF BULK AT MOST 1048576: true; the input reads as it did. -/
def wordsMatchUptoRow : OpenClaim := { program := "ytddichibegppjaa", sum := "a3b4e7f24f470ad887c071fb00b51fe34a3830e2e53d2df90d1d937773e17e41", func := "tedder/tedderlaw11.WordsMatch", spec := "wordsMatch", inPlace := ["internal/abi.NoEscape", "math.RoundToEven", "math.Float64frombits"], recurses := true, apart := false, narrowed := true }
def WordsMatchUptoSaid : Prop := wordsMatchUptoRow.holds Try.pinned (OpenSpec.upto wordsMatchSpec)

/-- 'tedderlaw04.MatchFinds', WHERE WHAT IT READS IS OF BULK AT MOST 1048576: true; the input reads as it did. -/
def matchFindsUptoRow : OpenClaim := { program := "ytddichibegppjaa", sum := "a3b4e7f24f470ad887c071fb00b51fe34a3830e2e53d2df90d1d937773e17e41", func := "tedder/tedderlaw04.MatchFinds", spec := "matchFinds", inPlace := ["internal/bytealg.IndexByteString", "internal/bytealg.IndexString"], unfollowed := true, recurses := true, named := ["internal/bytealg.MaxLen"], apart := false, narrowed := true }
def MatchFindsUptoSaid : Prop := matchFindsUptoRow.holds Try.pinned (OpenSpec.upto matchFindsSpec)

/-- 'tedderlaw04.MatchWholes', WHERE WHAT IT READS IS OF BULK AT MOST 1048576: true; the input reads as it did. -/
def matchWholesUptoRow : OpenClaim := { program := "ytddichibegppjaa", sum := "a3b4e7f24f470ad887c071fb00b51fe34a3830e2e53d2df90d1d937773e17e41", func := "tedder/tedderlaw04.MatchWholes", spec := "matchWholes", inPlace := ["internal/bytealg.IndexByteString", "internal/bytealg.IndexString"], unfollowed := true, recurses := true, named := ["internal/bytealg.MaxLen"], apart := false, narrowed := true }
def MatchWholesUptoSaid : Prop := matchWholesUptoRow.holds Try.pinned (OpenSpec.upto matchWholesSpec)

/-- 'tedderlaw04.MatchLaws', WHERE WHAT IT READS IS OF BULK AT MOST 1048576: true; the input reads as it did. -/
def matchLawsUptoRow : OpenClaim := { program := "ytddichibegppjaa", sum := "a3b4e7f24f470ad887c071fb00b51fe34a3830e2e53d2df90d1d937773e17e41", func := "tedder/tedderlaw04.MatchLaws", spec := "matchLaws", inPlace := ["internal/bytealg.IndexByteString", "internal/bytealg.IndexString"], unfollowed := true, recurses := true, named := ["internal/bytealg.MaxLen"], apart := false, narrowed := true }
def MatchLawsUptoSaid : Prop := matchLawsUptoRow.holds Try.pinned (OpenSpec.upto matchLawsSpec)

/-- 'tedderlaw04.MatchLeft', WHERE WHAT IT READS IS OF BULK AT MOST 1048576: true; the input reads as it did. -/
def matchLeftUptoRow : OpenClaim := { program := "ytddichibegppjaa", sum := "a3b4e7f24f470ad887c071fb00b51fe34a3830e2e53d2df90d1d937773e17e41", func := "tedder/tedderlaw04.MatchLeft", spec := "matchLeft", inPlace := ["internal/bytealg.IndexByteString", "internal/bytealg.IndexString"], unfollowed := true, recurses := true, named := ["internal/bytealg.MaxLen"], apart := false, narrowed := true }
def MatchLeftUptoSaid : Prop := matchLeftUptoRow.holds Try.pinned (OpenSpec.upto matchLeftSpec)

/-- 'tedderlaw10.FieldSplits', WHERE WHAT IT READS IS OF BULK AT MOST 1048576: true; the input reads as it did. -/
def fieldSplitsUptoRow : OpenClaim := { program := "ytddichibegppjaa", sum := "a3b4e7f24f470ad887c071fb00b51fe34a3830e2e53d2df90d1d937773e17e41", func := "tedder/tedderlaw10.FieldSplits", spec := "fieldSplits", inPlace := ["internal/bytealg.IndexByteString", "internal/bytealg.IndexString", "internal/abi.NoEscape", "internal/bytealg.MakeNoZero"], unfollowed := true, recurses := true, named := ["internal/bytealg.MaxLen"], apart := false, narrowed := true }
def FieldSplitsUptoSaid : Prop := fieldSplitsUptoRow.holds Try.pinned (OpenSpec.upto fieldSplitsSpec)

/-- 'tedderlaw10.FieldBack', WHERE WHAT IT READS IS OF BULK AT MOST 1048576: true; the input reads as it did. -/
def fieldBackUptoRow : OpenClaim := { program := "ytddichibegppjaa", sum := "a3b4e7f24f470ad887c071fb00b51fe34a3830e2e53d2df90d1d937773e17e41", func := "tedder/tedderlaw10.FieldBack", spec := "fieldBack", inPlace := ["internal/bytealg.IndexByteString", "internal/bytealg.IndexString", "internal/abi.NoEscape", "internal/bytealg.MakeNoZero"], unfollowed := true, recurses := true, named := ["internal/bytealg.MaxLen"], apart := false, narrowed := true }
def FieldBackUptoSaid : Prop := fieldBackUptoRow.holds Try.pinned (OpenSpec.upto fieldBackSpec)

/-- 'tedderlaw10.FieldBlanks', WHERE WHAT IT READS IS OF BULK AT MOST 1048576: true; the input reads as it did. -/
def fieldBlanksUptoRow : OpenClaim := { program := "ytddichibegppjaa", sum := "a3b4e7f24f470ad887c071fb00b51fe34a3830e2e53d2df90d1d937773e17e41", func := "tedder/tedderlaw10.FieldBlanks", spec := "fieldBlanks", inPlace := ["internal/bytealg.IndexByteString", "internal/bytealg.IndexString", "internal/abi.NoEscape", "internal/bytealg.MakeNoZero"], unfollowed := true, recurses := true, named := ["internal/bytealg.MaxLen"], apart := false, narrowed := true }
def FieldBlanksUptoSaid : Prop := fieldBlanksUptoRow.holds Try.pinned (OpenSpec.upto fieldBlanksSpec)

/-- 'tedderlaw10.FieldRuns', WHERE WHAT IT READS IS OF BULK AT MOST 1048576: true; the input reads as it did. -/
def fieldRunsUptoRow : OpenClaim := { program := "ytddichibegppjaa", sum := "a3b4e7f24f470ad887c071fb00b51fe34a3830e2e53d2df90d1d937773e17e41", func := "tedder/tedderlaw10.FieldRuns", spec := "fieldRuns", inPlace := ["internal/bytealg.IndexByteString", "internal/bytealg.IndexString", "internal/abi.NoEscape", "internal/bytealg.MakeNoZero"], unfollowed := true, recurses := true, named := ["internal/bytealg.MaxLen"], apart := false, narrowed := true }
def FieldRunsUptoSaid : Prop := fieldRunsUptoRow.holds Try.pinned (OpenSpec.upto fieldRunsSpec)

end Rows
end Go.Proofs.Ytddichibegppjaa
