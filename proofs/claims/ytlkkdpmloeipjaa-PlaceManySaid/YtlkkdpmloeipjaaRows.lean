/-
  No cell of these rows narrows 'for every input' (looked for: loops, veiled, ifaces, maps, wideKeys, modest, calm, conditions, laid).
  DERIVED. THE GIVEN ROWS OF THIS SEAT. 14 by the template 'for every input the law returns true; each argument reads behind the call as it read before'; 0 by the template 'total and deterministic' (their statements: YtlkkdpmloeipjaaTotals.lean).
  GIVEN WITH THE SEED: the statements are not yours to turn. If you find one false, say at which input.
  Laid BY PROGRAM, IN A SANDBOX (cutbox-rows.mjs): the forced cells as the released guide's own fill.sh prints them over the translation b5fc850303810acd… (all of the seat's roots in one cut). By AI agents, Wed Nov 11 2026. No macro, syntax, notation, axiom, sorry.
-/
import Derived.Test.YtlkkdpmloeipjaaChecked
import GoSem.Claim
import GoSem.ClaimJoined
import GoSem.ClaimMapViews
import Derived.JoinedTies
import Derived.KernelRfl
namespace Go.Proofs.Ytlkkdpmloeipjaa
/- THE CELL 'sum', in the pinned program and in every row, IS THE sha256 OF THE DUMP (.gsa) THAT YtlkkdpmloeipjaaProg.lean LOADS. Nothing in Lean hashes anything: it is a label: what it is worth is what the hold of that sum in a sandbox is worth. -/
noncomputable def Try.pinned : Pinned := { name := "ytlkkdpmloeipjaa", sum := "b5fc850303810acdf0a44338173d028606366dace0b98895ba904ef034a58b2b", checked := Try.checked }
namespace Rows
def none {H : Type} : Left H := { results := [], args := [] }

/-- 'carlinglaw11.SpanCalls': WHATEVER THE INPUT: true; the input reads as it did. -/
def spanCallsSpec : ChangeSpec := { name := "spanCalls", fn := fun _ => fun
  | [d1, d2, d3] => { results := [.lit (.bool true)], args := [d1, d2, d3] }
  | _ => none }
def spanCallsRow : OpenClaim := { program := "ytlkkdpmloeipjaa", sum := "b5fc850303810acdf0a44338173d028606366dace0b98895ba904ef034a58b2b", func := "carling/carlinglaw11.SpanCalls", spec := "spanCalls", inPlace := ["internal/bytealg.IndexByteString", "internal/bytealg.IndexString"], unfollowed := true, recurses := true, named := ["internal/bytealg.MaxLen"], apart := false }
def SpanCallsSaid : Prop := spanCallsRow.holds Try.pinned (OpenSpec.ofChange spanCallsSpec)

/-- ITS FALSE NEIGHBOUR: 'it returns false'. Refute it at one input. -/
def spanCallsWrong : ChangeSpec := { name := "spanCalls", fn := fun _ => fun
  | [d1, d2, d3] => { results := [.lit (.bool false)], args := [d1, d2, d3] }
  | _ => none }
def SpanCallsWrongFalsely : Prop := spanCallsRow.holds Try.pinned (OpenSpec.ofChange spanCallsWrong)

/-- 'carlinglaw11.SpanMeets': WHATEVER THE INPUT: true; the input reads as it did. -/
def spanMeetsSpec : ChangeSpec := { name := "spanMeets", fn := fun _ => fun
  | [d1, d2] => { results := [.lit (.bool true)], args := [d1, d2] }
  | _ => none }
def spanMeetsRow : OpenClaim := { program := "ytlkkdpmloeipjaa", sum := "b5fc850303810acdf0a44338173d028606366dace0b98895ba904ef034a58b2b", func := "carling/carlinglaw11.SpanMeets", spec := "spanMeets", inPlace := ["internal/bytealg.IndexByteString", "internal/bytealg.IndexString"], unfollowed := true, recurses := true, named := ["internal/bytealg.MaxLen"], apart := false }
def SpanMeetsSaid : Prop := spanMeetsRow.holds Try.pinned (OpenSpec.ofChange spanMeetsSpec)

/-- ITS FALSE NEIGHBOUR: 'it returns false'. Refute it at one input. -/
def spanMeetsWrong : ChangeSpec := { name := "spanMeets", fn := fun _ => fun
  | [d1, d2] => { results := [.lit (.bool false)], args := [d1, d2] }
  | _ => none }
def SpanMeetsWrongFalsely : Prop := spanMeetsRow.holds Try.pinned (OpenSpec.ofChange spanMeetsWrong)

/-- 'carlinglaw11.SpanMore': WHATEVER THE INPUT: true; the input reads as it did. -/
def spanMoreSpec : ChangeSpec := { name := "spanMore", fn := fun _ => fun
  | [d] => { results := [.lit (.bool true)], args := [d] }
  | _ => none }
def spanMoreRow : OpenClaim := { program := "ytlkkdpmloeipjaa", sum := "b5fc850303810acdf0a44338173d028606366dace0b98895ba904ef034a58b2b", func := "carling/carlinglaw11.SpanMore", spec := "spanMore", inPlace := ["internal/bytealg.IndexByteString", "internal/bytealg.IndexString"], unfollowed := true, recurses := true, named := ["internal/bytealg.MaxLen"], apart := false }
def SpanMoreSaid : Prop := spanMoreRow.holds Try.pinned (OpenSpec.ofChange spanMoreSpec)

/-- ITS FALSE NEIGHBOUR: 'it returns false'. Refute it at one input. -/
def spanMoreWrong : ChangeSpec := { name := "spanMore", fn := fun _ => fun
  | [d] => { results := [.lit (.bool false)], args := [d] }
  | _ => none }
def SpanMoreWrongFalsely : Prop := spanMoreRow.holds Try.pinned (OpenSpec.ofChange spanMoreWrong)

/-- 'carlinglaw11.SpanParams': WHATEVER THE INPUT: true; the input reads as it did. -/
def spanParamsSpec : ChangeSpec := { name := "spanParams", fn := fun _ => fun
  | [d1, d2, d3] => { results := [.lit (.bool true)], args := [d1, d2, d3] }
  | _ => none }
def spanParamsRow : OpenClaim := { program := "ytlkkdpmloeipjaa", sum := "b5fc850303810acdf0a44338173d028606366dace0b98895ba904ef034a58b2b", func := "carling/carlinglaw11.SpanParams", spec := "spanParams", inPlace := ["internal/bytealg.IndexByteString", "internal/bytealg.IndexString"], unfollowed := true, recurses := true, named := ["internal/bytealg.MaxLen"], apart := false }
def SpanParamsSaid : Prop := spanParamsRow.holds Try.pinned (OpenSpec.ofChange spanParamsSpec)

/-- ITS FALSE NEIGHBOUR: 'it returns false'. Refute it at one input. -/
def spanParamsWrong : ChangeSpec := { name := "spanParams", fn := fun _ => fun
  | [d1, d2, d3] => { results := [.lit (.bool false)], args := [d1, d2, d3] }
  | _ => none }
def SpanParamsWrongFalsely : Prop := spanParamsRow.holds Try.pinned (OpenSpec.ofChange spanParamsWrong)

/-- 'carlinglaw11.SpanTells': WHATEVER THE INPUT: true; the input reads as it did. -/
def spanTellsSpec : ChangeSpec := { name := "spanTells", fn := fun _ => fun
  | [d1, d2] => { results := [.lit (.bool true)], args := [d1, d2] }
  | _ => none }
def spanTellsRow : OpenClaim := { program := "ytlkkdpmloeipjaa", sum := "b5fc850303810acdf0a44338173d028606366dace0b98895ba904ef034a58b2b", func := "carling/carlinglaw11.SpanTells", spec := "spanTells", inPlace := ["internal/bytealg.IndexByteString", "internal/bytealg.IndexString"], unfollowed := true, recurses := true, named := ["internal/bytealg.MaxLen"], apart := false }
def SpanTellsSaid : Prop := spanTellsRow.holds Try.pinned (OpenSpec.ofChange spanTellsSpec)

/-- ITS FALSE NEIGHBOUR: 'it returns false'. Refute it at one input. -/
def spanTellsWrong : ChangeSpec := { name := "spanTells", fn := fun _ => fun
  | [d1, d2] => { results := [.lit (.bool false)], args := [d1, d2] }
  | _ => none }
def SpanTellsWrongFalsely : Prop := spanTellsRow.holds Try.pinned (OpenSpec.ofChange spanTellsWrong)

/-- 'carlinglaw11.SpanWithin': WHATEVER THE INPUT: true; the input reads as it did. -/
def spanWithinSpec : ChangeSpec := { name := "spanWithin", fn := fun _ => fun
  | [d] => { results := [.lit (.bool true)], args := [d] }
  | _ => none }
def spanWithinRow : OpenClaim := { program := "ytlkkdpmloeipjaa", sum := "b5fc850303810acdf0a44338173d028606366dace0b98895ba904ef034a58b2b", func := "carling/carlinglaw11.SpanWithin", spec := "spanWithin", inPlace := ["internal/bytealg.IndexByteString", "internal/bytealg.IndexString"], unfollowed := true, recurses := true, named := ["internal/bytealg.MaxLen"], apart := false }
def SpanWithinSaid : Prop := spanWithinRow.holds Try.pinned (OpenSpec.ofChange spanWithinSpec)

/-- ITS FALSE NEIGHBOUR: 'it returns false'. Refute it at one input. -/
def spanWithinWrong : ChangeSpec := { name := "spanWithin", fn := fun _ => fun
  | [d] => { results := [.lit (.bool false)], args := [d] }
  | _ => none }
def SpanWithinWrongFalsely : Prop := spanWithinRow.holds Try.pinned (OpenSpec.ofChange spanWithinWrong)

/-- 'carlinglaw12.PlaceCalls': WHATEVER THE INPUT: true; the input reads as it did. -/
def placeCallsSpec : ChangeSpec := { name := "placeCalls", fn := fun _ => fun
  | [d1, d2] => { results := [.lit (.bool true)], args := [d1, d2] }
  | _ => none }
def placeCallsRow : OpenClaim := { program := "ytlkkdpmloeipjaa", sum := "b5fc850303810acdf0a44338173d028606366dace0b98895ba904ef034a58b2b", func := "carling/carlinglaw12.PlaceCalls", spec := "placeCalls", inPlace := ["internal/bytealg.IndexByteString", "internal/bytealg.IndexString"], unfollowed := true, recurses := true, named := ["internal/bytealg.MaxLen"], apart := false }
def PlaceCallsSaid : Prop := placeCallsRow.holds Try.pinned (OpenSpec.ofChange placeCallsSpec)

/-- ITS FALSE NEIGHBOUR: 'it returns false'. Refute it at one input. -/
def placeCallsWrong : ChangeSpec := { name := "placeCalls", fn := fun _ => fun
  | [d1, d2] => { results := [.lit (.bool false)], args := [d1, d2] }
  | _ => none }
def PlaceCallsWrongFalsely : Prop := placeCallsRow.holds Try.pinned (OpenSpec.ofChange placeCallsWrong)

/-- 'carlinglaw12.PlaceMany': WHATEVER THE INPUT: true; the input reads as it did. -/
def placeManySpec : ChangeSpec := { name := "placeMany", fn := fun _ => fun
  | [d] => { results := [.lit (.bool true)], args := [d] }
  | _ => none }
def placeManyRow : OpenClaim := { program := "ytlkkdpmloeipjaa", sum := "b5fc850303810acdf0a44338173d028606366dace0b98895ba904ef034a58b2b", func := "carling/carlinglaw12.PlaceMany", spec := "placeMany", inPlace := ["internal/bytealg.IndexByteString", "internal/bytealg.IndexString"], unfollowed := true, recurses := true, named := ["internal/bytealg.MaxLen"], apart := false }
def PlaceManySaid : Prop := placeManyRow.holds Try.pinned (OpenSpec.ofChange placeManySpec)

/-- ITS FALSE NEIGHBOUR: 'it returns false'. Refute it at one input. -/
def placeManyWrong : ChangeSpec := { name := "placeMany", fn := fun _ => fun
  | [d] => { results := [.lit (.bool false)], args := [d] }
  | _ => none }
def PlaceManyWrongFalsely : Prop := placeManyRow.holds Try.pinned (OpenSpec.ofChange placeManyWrong)

/-- 'carlinglaw12.PlaceOwn': WHATEVER THE INPUT: true; the input reads as it did. -/
def placeOwnSpec : ChangeSpec := { name := "placeOwn", fn := fun _ => fun
  | [d1, d2] => { results := [.lit (.bool true)], args := [d1, d2] }
  | _ => none }
def placeOwnRow : OpenClaim := { program := "ytlkkdpmloeipjaa", sum := "b5fc850303810acdf0a44338173d028606366dace0b98895ba904ef034a58b2b", func := "carling/carlinglaw12.PlaceOwn", spec := "placeOwn", inPlace := ["internal/bytealg.IndexByteString", "internal/bytealg.IndexString"], unfollowed := true, recurses := true, named := ["internal/bytealg.MaxLen"], apart := false }
def PlaceOwnSaid : Prop := placeOwnRow.holds Try.pinned (OpenSpec.ofChange placeOwnSpec)

/-- ITS FALSE NEIGHBOUR: 'it returns false'. Refute it at one input. -/
def placeOwnWrong : ChangeSpec := { name := "placeOwn", fn := fun _ => fun
  | [d1, d2] => { results := [.lit (.bool false)], args := [d1, d2] }
  | _ => none }
def PlaceOwnWrongFalsely : Prop := placeOwnRow.holds Try.pinned (OpenSpec.ofChange placeOwnWrong)

/-- 'carlinglaw12.PlaceSame': WHATEVER THE INPUT: true; the input reads as it did. -/
def placeSameSpec : ChangeSpec := { name := "placeSame", fn := fun _ => fun
  | [d] => { results := [.lit (.bool true)], args := [d] }
  | _ => none }
def placeSameRow : OpenClaim := { program := "ytlkkdpmloeipjaa", sum := "b5fc850303810acdf0a44338173d028606366dace0b98895ba904ef034a58b2b", func := "carling/carlinglaw12.PlaceSame", spec := "placeSame", inPlace := ["internal/bytealg.IndexByteString", "internal/bytealg.IndexString"], unfollowed := true, recurses := true, named := ["internal/bytealg.MaxLen"], apart := false }
def PlaceSameSaid : Prop := placeSameRow.holds Try.pinned (OpenSpec.ofChange placeSameSpec)

/-- ITS FALSE NEIGHBOUR: 'it returns false'. Refute it at one input. -/
def placeSameWrong : ChangeSpec := { name := "placeSame", fn := fun _ => fun
  | [d] => { results := [.lit (.bool false)], args := [d] }
  | _ => none }
def PlaceSameWrongFalsely : Prop := placeSameRow.holds Try.pinned (OpenSpec.ofChange placeSameWrong)

/-- 'carlinglaw12.PlaceTells': WHATEVER THE INPUT: true; the input reads as it did. -/
def placeTellsSpec : ChangeSpec := { name := "placeTells", fn := fun _ => fun
  | [d] => { results := [.lit (.bool true)], args := [d] }
  | _ => none }
def placeTellsRow : OpenClaim := { program := "ytlkkdpmloeipjaa", sum := "b5fc850303810acdf0a44338173d028606366dace0b98895ba904ef034a58b2b", func := "carling/carlinglaw12.PlaceTells", spec := "placeTells", inPlace := ["internal/bytealg.IndexByteString", "internal/bytealg.IndexString"], unfollowed := true, recurses := true, named := ["internal/bytealg.MaxLen"], apart := false }
def PlaceTellsSaid : Prop := placeTellsRow.holds Try.pinned (OpenSpec.ofChange placeTellsSpec)

/-- ITS FALSE NEIGHBOUR: 'it returns false'. Refute it at one input. -/
def placeTellsWrong : ChangeSpec := { name := "placeTells", fn := fun _ => fun
  | [d] => { results := [.lit (.bool false)], args := [d] }
  | _ => none }
def PlaceTellsWrongFalsely : Prop := placeTellsRow.holds Try.pinned (OpenSpec.ofChange placeTellsWrong)

/-- 'carlinglaw17.GenReady': WHATEVER THE INPUT: true; the input reads as it did. -/
def genReadySpec : ChangeSpec := { name := "genReady", fn := fun _ => fun
  | [d] => { results := [.lit (.bool true)], args := [d] }
  | _ => none }
def genReadyRow : OpenClaim := { program := "ytlkkdpmloeipjaa", sum := "b5fc850303810acdf0a44338173d028606366dace0b98895ba904ef034a58b2b", func := "carling/carlinglaw17.GenReady", spec := "genReady", inPlace := ["internal/bytealg.IndexByteString", "internal/bytealg.IndexString"], unfollowed := true, recurses := true, named := ["internal/bytealg.MaxLen"], apart := false }
def GenReadySaid : Prop := genReadyRow.holds Try.pinned (OpenSpec.ofChange genReadySpec)

/-- ITS FALSE NEIGHBOUR: 'it returns false'. Refute it at one input. -/
def genReadyWrong : ChangeSpec := { name := "genReady", fn := fun _ => fun
  | [d] => { results := [.lit (.bool false)], args := [d] }
  | _ => none }
def GenReadyWrongFalsely : Prop := genReadyRow.holds Try.pinned (OpenSpec.ofChange genReadyWrong)

/-- 'carlinglaw17.GenSame': WHATEVER THE INPUT: true; the input reads as it did. -/
def genSameSpec : ChangeSpec := { name := "genSame", fn := fun _ => fun
  | [d] => { results := [.lit (.bool true)], args := [d] }
  | _ => none }
def genSameRow : OpenClaim := { program := "ytlkkdpmloeipjaa", sum := "b5fc850303810acdf0a44338173d028606366dace0b98895ba904ef034a58b2b", func := "carling/carlinglaw17.GenSame", spec := "genSame", inPlace := ["internal/bytealg.IndexByteString", "internal/bytealg.IndexString"], unfollowed := true, recurses := true, named := ["internal/bytealg.MaxLen"], apart := false }
def GenSameSaid : Prop := genSameRow.holds Try.pinned (OpenSpec.ofChange genSameSpec)

/-- ITS FALSE NEIGHBOUR: 'it returns false'. Refute it at one input. -/
def genSameWrong : ChangeSpec := { name := "genSame", fn := fun _ => fun
  | [d] => { results := [.lit (.bool false)], args := [d] }
  | _ => none }
def GenSameWrongFalsely : Prop := genSameRow.holds Try.pinned (OpenSpec.ofChange genSameWrong)

/-- 'carlinglaw17.GenSel': WHATEVER THE INPUT: true; the input reads as it did. -/
def genSelSpec : ChangeSpec := { name := "genSel", fn := fun _ => fun
  | [d1, d2, d3] => { results := [.lit (.bool true)], args := [d1, d2, d3] }
  | _ => none }
def genSelRow : OpenClaim := { program := "ytlkkdpmloeipjaa", sum := "b5fc850303810acdf0a44338173d028606366dace0b98895ba904ef034a58b2b", func := "carling/carlinglaw17.GenSel", spec := "genSel", inPlace := ["internal/bytealg.IndexByteString", "internal/bytealg.IndexString"], unfollowed := true, recurses := true, named := ["internal/bytealg.MaxLen"], apart := false }
def GenSelSaid : Prop := genSelRow.holds Try.pinned (OpenSpec.ofChange genSelSpec)

/-- ITS FALSE NEIGHBOUR: 'it returns false'. Refute it at one input. -/
def genSelWrong : ChangeSpec := { name := "genSel", fn := fun _ => fun
  | [d1, d2, d3] => { results := [.lit (.bool false)], args := [d1, d2, d3] }
  | _ => none }
def GenSelWrongFalsely : Prop := genSelRow.holds Try.pinned (OpenSpec.ofChange genSelWrong)

/- THE SECOND FORM. 'bulk': how many values and letters a reading holds, each counted each time it is reached (what is shared counts as often as it is met; a slice's spare places count too). A statement '..UptoSaid' is the law's where the arguments, and the package variables that the reading takes, are together of bulk at most 1048576: NARROWER than '..Said'. Prove '..Said' where nothing that the law and all that it calls make is longer than what came in: it says more and counts as full. Else prove '..UptoSaid'. A law counts once. -/
mutual
def uptoBulk {H : Type} : DataW H → Nat
  | .lit (.string bytes) => bytes.length + 1
  | .lit _ => 1
  | .nil => 1
  | .ptr d => uptoBulk d + 1
  | .slice elems spare => uptoBulkAll elems + uptoBulkAll spare + 1
  | .agg parts => uptoBulkAll parts + 1
  | .iface _ d => uptoBulk d + 1
  | .map entries => uptoBulkEntries entries + 1
  | .held _ => 1
def uptoBulkAll {H : Type} : List (DataW H) → Nat
  | [] => 0
  | d :: r => uptoBulk d + uptoBulkAll r
def uptoBulkEntries {H : Type} : List (Lit × DataW H) → Nat
  | [] => 0
  | x :: r => uptoBulkEntry x + uptoBulkEntries r
def uptoBulkEntry {H : Type} : Lit × DataW H → Nat
  | (.string bytes, d) => bytes.length + uptoBulk d + 1
  | (_, d) => uptoBulk d + 1
 end
def uptoSmall : (H : Type) → List (DataW H) → Bool := fun _ ds => decide (uptoBulkAll ds ≤ 1048576)
def OpenSpec.upto (s : _root_.Go.ChangeSpec) : _root_.Go.OpenSpec := { _root_.Go.OpenSpec.ofChange s with cond := some uptoSmall }

/-- 'carlinglaw11.SpanCalls', WHERE WHAT IT READS IS OF BULK AT MOST 1048576: true; the input reads as it did. -/
def spanCallsUptoRow : OpenClaim := { program := "ytlkkdpmloeipjaa", sum := "b5fc850303810acdf0a44338173d028606366dace0b98895ba904ef034a58b2b", func := "carling/carlinglaw11.SpanCalls", spec := "spanCalls", inPlace := ["internal/bytealg.IndexByteString", "internal/bytealg.IndexString"], unfollowed := true, recurses := true, named := ["internal/bytealg.MaxLen"], apart := false, narrowed := true }
def SpanCallsUptoSaid : Prop := spanCallsUptoRow.holds Try.pinned (OpenSpec.upto spanCallsSpec)

/-- 'carlinglaw11.SpanMeets', WHERE WHAT IT READS IS OF BULK AT MOST 1048576: true; the input reads as it did. -/
def spanMeetsUptoRow : OpenClaim := { program := "ytlkkdpmloeipjaa", sum := "b5fc850303810acdf0a44338173d028606366dace0b98895ba904ef034a58b2b", func := "carling/carlinglaw11.SpanMeets", spec := "spanMeets", inPlace := ["internal/bytealg.IndexByteString", "internal/bytealg.IndexString"], unfollowed := true, recurses := true, named := ["internal/bytealg.MaxLen"], apart := false, narrowed := true }
def SpanMeetsUptoSaid : Prop := spanMeetsUptoRow.holds Try.pinned (OpenSpec.upto spanMeetsSpec)

/-- 'carlinglaw11.SpanMore', WHERE WHAT IT READS IS OF BULK AT MOST 1048576: true; the input reads as it did. -/
def spanMoreUptoRow : OpenClaim := { program := "ytlkkdpmloeipjaa", sum := "b5fc850303810acdf0a44338173d028606366dace0b98895ba904ef034a58b2b", func := "carling/carlinglaw11.SpanMore", spec := "spanMore", inPlace := ["internal/bytealg.IndexByteString", "internal/bytealg.IndexString"], unfollowed := true, recurses := true, named := ["internal/bytealg.MaxLen"], apart := false, narrowed := true }
def SpanMoreUptoSaid : Prop := spanMoreUptoRow.holds Try.pinned (OpenSpec.upto spanMoreSpec)

/-- 'carlinglaw11.SpanParams', WHERE WHAT IT READS IS OF BULK AT MOST 1048576: true; the input reads as it did. -/
def spanParamsUptoRow : OpenClaim := { program := "ytlkkdpmloeipjaa", sum := "b5fc850303810acdf0a44338173d028606366dace0b98895ba904ef034a58b2b", func := "carling/carlinglaw11.SpanParams", spec := "spanParams", inPlace := ["internal/bytealg.IndexByteString", "internal/bytealg.IndexString"], unfollowed := true, recurses := true, named := ["internal/bytealg.MaxLen"], apart := false, narrowed := true }
def SpanParamsUptoSaid : Prop := spanParamsUptoRow.holds Try.pinned (OpenSpec.upto spanParamsSpec)

/-- 'carlinglaw11.SpanTells', WHERE WHAT IT READS IS OF BULK AT MOST 1048576: true; the input reads as it did. -/
def spanTellsUptoRow : OpenClaim := { program := "ytlkkdpmloeipjaa", sum := "b5fc850303810acdf0a44338173d028606366dace0b98895ba904ef034a58b2b", func := "carling/carlinglaw11.SpanTells", spec := "spanTells", inPlace := ["internal/bytealg.IndexByteString", "internal/bytealg.IndexString"], unfollowed := true, recurses := true, named := ["internal/bytealg.MaxLen"], apart := false, narrowed := true }
def SpanTellsUptoSaid : Prop := spanTellsUptoRow.holds Try.pinned (OpenSpec.upto spanTellsSpec)

/-- 'carlinglaw11.SpanWithin', WHERE WHAT IT READS IS OF BULK AT MOST 1048576: true; the input reads as it did. -/
def spanWithinUptoRow : OpenClaim := { program := "ytlkkdpmloeipjaa", sum := "b5fc850303810acdf0a44338173d028606366dace0b98895ba904ef034a58b2b", func := "carling/carlinglaw11.SpanWithin", spec := "spanWithin", inPlace := ["internal/bytealg.IndexByteString", "internal/bytealg.IndexString"], unfollowed := true, recurses := true, named := ["internal/bytealg.MaxLen"], apart := false, narrowed := true }
def SpanWithinUptoSaid : Prop := spanWithinUptoRow.holds Try.pinned (OpenSpec.upto spanWithinSpec)

/-- 'carlinglaw12.PlaceCalls', WHERE WHAT IT READS IS OF BULK AT MOST 1048576: true; the input reads as it did. -/
def placeCallsUptoRow : OpenClaim := { program := "ytlkkdpmloeipjaa", sum := "b5fc850303810acdf0a44338173d028606366dace0b98895ba904ef034a58b2b", func := "carling/carlinglaw12.PlaceCalls", spec := "placeCalls", inPlace := ["internal/bytealg.IndexByteString", "internal/bytealg.IndexString"], unfollowed := true, recurses := true, named := ["internal/bytealg.MaxLen"], apart := false, narrowed := true }
def PlaceCallsUptoSaid : Prop := placeCallsUptoRow.holds Try.pinned (OpenSpec.upto placeCallsSpec)

/-- 'carlinglaw12.PlaceMany', WHERE WHAT IT READS IS OF BULK AT MOST 1048576: true; the input reads as it did. -/
def placeManyUptoRow : OpenClaim := { program := "ytlkkdpmloeipjaa", sum := "b5fc850303810acdf0a44338173d028606366dace0b98895ba904ef034a58b2b", func := "carling/carlinglaw12.PlaceMany", spec := "placeMany", inPlace := ["internal/bytealg.IndexByteString", "internal/bytealg.IndexString"], unfollowed := true, recurses := true, named := ["internal/bytealg.MaxLen"], apart := false, narrowed := true }
def PlaceManyUptoSaid : Prop := placeManyUptoRow.holds Try.pinned (OpenSpec.upto placeManySpec)

/-- 'carlinglaw12.PlaceOwn', WHERE WHAT IT READS IS OF BULK AT MOST 1048576: true; the input reads as it did. -/
def placeOwnUptoRow : OpenClaim := { program := "ytlkkdpmloeipjaa", sum := "b5fc850303810acdf0a44338173d028606366dace0b98895ba904ef034a58b2b", func := "carling/carlinglaw12.PlaceOwn", spec := "placeOwn", inPlace := ["internal/bytealg.IndexByteString", "internal/bytealg.IndexString"], unfollowed := true, recurses := true, named := ["internal/bytealg.MaxLen"], apart := false, narrowed := true }
def PlaceOwnUptoSaid : Prop := placeOwnUptoRow.holds Try.pinned (OpenSpec.upto placeOwnSpec)

/-- 'carlinglaw12.PlaceSame', WHERE WHAT IT READS IS OF BULK AT MOST 1048576: true; the input reads as it did. -/
def placeSameUptoRow : OpenClaim := { program := "ytlkkdpmloeipjaa", sum := "b5fc850303810acdf0a44338173d028606366dace0b98895ba904ef034a58b2b", func := "carling/carlinglaw12.PlaceSame", spec := "placeSame", inPlace := ["internal/bytealg.IndexByteString", "internal/bytealg.IndexString"], unfollowed := true, recurses := true, named := ["internal/bytealg.MaxLen"], apart := false, narrowed := true }
def PlaceSameUptoSaid : Prop := placeSameUptoRow.holds Try.pinned (OpenSpec.upto placeSameSpec)

/-- 'carlinglaw12.PlaceTells', WHERE WHAT IT READS IS OF BULK AT MOST 1048576: true; the input reads as it did. -/
def placeTellsUptoRow : OpenClaim := { program := "ytlkkdpmloeipjaa", sum := "b5fc850303810acdf0a44338173d028606366dace0b98895ba904ef034a58b2b", func := "carling/carlinglaw12.PlaceTells", spec := "placeTells", inPlace := ["internal/bytealg.IndexByteString", "internal/bytealg.IndexString"], unfollowed := true, recurses := true, named := ["internal/bytealg.MaxLen"], apart := false, narrowed := true }
def PlaceTellsUptoSaid : Prop := placeTellsUptoRow.holds Try.pinned (OpenSpec.upto placeTellsSpec)

/-- 'carlinglaw17.GenReady', WHERE WHAT IT READS IS OF BULK AT MOST 1048576: true; the input reads as it did. -/
def genReadyUptoRow : OpenClaim := { program := "ytlkkdpmloeipjaa", sum := "b5fc850303810acdf0a44338173d028606366dace0b98895ba904ef034a58b2b", func := "carling/carlinglaw17.GenReady", spec := "genReady", inPlace := ["internal/bytealg.IndexByteString", "internal/bytealg.IndexString"], unfollowed := true, recurses := true, named := ["internal/bytealg.MaxLen"], apart := false, narrowed := true }
def GenReadyUptoSaid : Prop := genReadyUptoRow.holds Try.pinned (OpenSpec.upto genReadySpec)

/-- 'carlinglaw17.GenSame', WHERE WHAT IT READS IS OF BULK AT MOST 1048576: true; the input reads as it did. -/
def genSameUptoRow : OpenClaim := { program := "ytlkkdpmloeipjaa", sum := "b5fc850303810acdf0a44338173d028606366dace0b98895ba904ef034a58b2b", func := "carling/carlinglaw17.GenSame", spec := "genSame", inPlace := ["internal/bytealg.IndexByteString", "internal/bytealg.IndexString"], unfollowed := true, recurses := true, named := ["internal/bytealg.MaxLen"], apart := false, narrowed := true }
def GenSameUptoSaid : Prop := genSameUptoRow.holds Try.pinned (OpenSpec.upto genSameSpec)

/-- 'carlinglaw17.GenSel', WHERE WHAT IT READS IS OF BULK AT MOST 1048576: true; the input reads as it did. -/
def genSelUptoRow : OpenClaim := { program := "ytlkkdpmloeipjaa", sum := "b5fc850303810acdf0a44338173d028606366dace0b98895ba904ef034a58b2b", func := "carling/carlinglaw17.GenSel", spec := "genSel", inPlace := ["internal/bytealg.IndexByteString", "internal/bytealg.IndexString"], unfollowed := true, recurses := true, named := ["internal/bytealg.MaxLen"], apart := false, narrowed := true }
def GenSelUptoSaid : Prop := genSelUptoRow.holds Try.pinned (OpenSpec.upto genSelSpec)

end Rows
end Go.Proofs.Ytlkkdpmloeipjaa
