/-
  No cell of these rows narrows 'for every input' (looked for: loops, veiled, ifaces, maps, wideKeys, modest, calm, conditions, laid).
  DERIVED. THE GIVEN ROWS OF THIS SEAT. 11 by the template 'for every input the law returns true; each argument reads behind the call as it read before'; 0 by the template 'total and deterministic' (their statements: YtddnbpgibfmolaaTotals.lean).
  GIVEN WITH THE SEED: the statements are not yours to turn. If you find one false, say at which input.
  Laid BY PROGRAM, IN A SANDBOX (cutbox-rows.mjs): the forced cells as the released guide's own fill.sh prints them over the translation 857dff3bccaae2db… (all of the seat's roots in one cut). By AI agents, Wed Nov 11 2026. No macro, syntax, notation, axiom, sorry.
-/
import Derived.Test.YtddnbpgibfmolaaChecked
import GoSem.Claim
import GoSem.ClaimJoined
import GoSem.ClaimMapViews
import Derived.JoinedTies
import Derived.KernelRfl
namespace Go.Proofs.Ytddnbpgibfmolaa
/- THE CELL 'sum', in the pinned program and in every row, IS THE sha256 OF THE DUMP (.gsa) THAT YtddnbpgibfmolaaProg.lean LOADS. Nothing in Lean hashes anything: it is a label: what it is worth is what the hold of that sum in a sandbox is worth. -/
noncomputable def Try.pinned : Pinned := { name := "ytddnbpgibfmolaa", sum := "857dff3bccaae2dbdc905f1c84153dea96132965d268d1a08b3dfb9cf385ff54", checked := Try.checked }
namespace Rows
def none {H : Type} : Left H := { results := [], args := [] }

/-- 'carlinglaw14.ExecCells': WHATEVER THE INPUT: true; the input reads as it did. -/
def execCellsSpec : ChangeSpec := { name := "execCells", fn := fun _ => fun
  | [d1, d2, d3] => { results := [.lit (.bool true)], args := [d1, d2, d3] }
  | _ => none }
def execCellsRow : OpenClaim := { program := "ytddnbpgibfmolaa", sum := "857dff3bccaae2dbdc905f1c84153dea96132965d268d1a08b3dfb9cf385ff54", func := "carling/carlinglaw14.ExecCells", spec := "execCells", inPlace := ["internal/bytealg.IndexByteString", "internal/bytealg.IndexString"], unfollowed := true, recurses := true, named := ["internal/bytealg.MaxLen"], apart := false }
def ExecCellsSaid : Prop := execCellsRow.holds Try.pinned (OpenSpec.ofChange execCellsSpec)

/-- ITS FALSE NEIGHBOUR: 'it returns false'. Refute it at one input. -/
def execCellsWrong : ChangeSpec := { name := "execCells", fn := fun _ => fun
  | [d1, d2, d3] => { results := [.lit (.bool false)], args := [d1, d2, d3] }
  | _ => none }
def ExecCellsWrongFalsely : Prop := execCellsRow.holds Try.pinned (OpenSpec.ofChange execCellsWrong)

/-- 'carlinglaw14.ExecDeep': WHATEVER THE INPUT: true; the input reads as it did. -/
def execDeepSpec : ChangeSpec := { name := "execDeep", fn := fun _ => fun
  | [d] => { results := [.lit (.bool true)], args := [d] }
  | _ => none }
def execDeepRow : OpenClaim := { program := "ytddnbpgibfmolaa", sum := "857dff3bccaae2dbdc905f1c84153dea96132965d268d1a08b3dfb9cf385ff54", func := "carling/carlinglaw14.ExecDeep", spec := "execDeep", inPlace := ["internal/bytealg.IndexByteString", "internal/bytealg.IndexString"], unfollowed := true, recurses := true, named := ["internal/bytealg.MaxLen"], apart := false }
def ExecDeepSaid : Prop := execDeepRow.holds Try.pinned (OpenSpec.ofChange execDeepSpec)

/-- ITS FALSE NEIGHBOUR: 'it returns false'. Refute it at one input. -/
def execDeepWrong : ChangeSpec := { name := "execDeep", fn := fun _ => fun
  | [d] => { results := [.lit (.bool false)], args := [d] }
  | _ => none }
def ExecDeepWrongFalsely : Prop := execDeepRow.holds Try.pinned (OpenSpec.ofChange execDeepWrong)

/-- 'carlinglaw14.ExecGoes': WHATEVER THE INPUT: true; the input reads as it did. -/
def execGoesSpec : ChangeSpec := { name := "execGoes", fn := fun _ => fun
  | [d1, d2, d3] => { results := [.lit (.bool true)], args := [d1, d2, d3] }
  | _ => none }
def execGoesRow : OpenClaim := { program := "ytddnbpgibfmolaa", sum := "857dff3bccaae2dbdc905f1c84153dea96132965d268d1a08b3dfb9cf385ff54", func := "carling/carlinglaw14.ExecGoes", spec := "execGoes", inPlace := ["internal/bytealg.IndexByteString", "internal/bytealg.IndexString"], unfollowed := true, recurses := true, named := ["internal/bytealg.MaxLen"], apart := false }
def ExecGoesSaid : Prop := execGoesRow.holds Try.pinned (OpenSpec.ofChange execGoesSpec)

/-- ITS FALSE NEIGHBOUR: 'it returns false'. Refute it at one input. -/
def execGoesWrong : ChangeSpec := { name := "execGoes", fn := fun _ => fun
  | [d1, d2, d3] => { results := [.lit (.bool false)], args := [d1, d2, d3] }
  | _ => none }
def ExecGoesWrongFalsely : Prop := execGoesRow.holds Try.pinned (OpenSpec.ofChange execGoesWrong)

/-- 'carlinglaw14.ExecMath': WHATEVER THE INPUT: true; the input reads as it did. -/
def execMathSpec : ChangeSpec := { name := "execMath", fn := fun _ => fun
  | [d1, d2, d3] => { results := [.lit (.bool true)], args := [d1, d2, d3] }
  | _ => none }
def execMathRow : OpenClaim := { program := "ytddnbpgibfmolaa", sum := "857dff3bccaae2dbdc905f1c84153dea96132965d268d1a08b3dfb9cf385ff54", func := "carling/carlinglaw14.ExecMath", spec := "execMath", inPlace := ["internal/bytealg.IndexByteString", "internal/bytealg.IndexString"], unfollowed := true, recurses := true, named := ["internal/bytealg.MaxLen"], apart := false }
def ExecMathSaid : Prop := execMathRow.holds Try.pinned (OpenSpec.ofChange execMathSpec)

/-- ITS FALSE NEIGHBOUR: 'it returns false'. Refute it at one input. -/
def execMathWrong : ChangeSpec := { name := "execMath", fn := fun _ => fun
  | [d1, d2, d3] => { results := [.lit (.bool false)], args := [d1, d2, d3] }
  | _ => none }
def ExecMathWrongFalsely : Prop := execMathRow.holds Try.pinned (OpenSpec.ofChange execMathWrong)

/-- 'carlinglaw14.ExecMore': WHATEVER THE INPUT: true; the input reads as it did. -/
def execMoreSpec : ChangeSpec := { name := "execMore", fn := fun _ => fun
  | [d1, d2, d3] => { results := [.lit (.bool true)], args := [d1, d2, d3] }
  | _ => none }
def execMoreRow : OpenClaim := { program := "ytddnbpgibfmolaa", sum := "857dff3bccaae2dbdc905f1c84153dea96132965d268d1a08b3dfb9cf385ff54", func := "carling/carlinglaw14.ExecMore", spec := "execMore", inPlace := ["internal/bytealg.IndexByteString", "internal/bytealg.IndexString"], unfollowed := true, recurses := true, named := ["internal/bytealg.MaxLen"], apart := false }
def ExecMoreSaid : Prop := execMoreRow.holds Try.pinned (OpenSpec.ofChange execMoreSpec)

/-- ITS FALSE NEIGHBOUR: 'it returns false'. Refute it at one input. -/
def execMoreWrong : ChangeSpec := { name := "execMore", fn := fun _ => fun
  | [d1, d2, d3] => { results := [.lit (.bool false)], args := [d1, d2, d3] }
  | _ => none }
def ExecMoreWrongFalsely : Prop := execMoreRow.holds Try.pinned (OpenSpec.ofChange execMoreWrong)

/-- 'carlinglaw14.ExecRuns': WHATEVER THE INPUT: true; the input reads as it did. -/
def execRunsSpec : ChangeSpec := { name := "execRuns", fn := fun _ => fun
  | [d1, d2, d3] => { results := [.lit (.bool true)], args := [d1, d2, d3] }
  | _ => none }
def execRunsRow : OpenClaim := { program := "ytddnbpgibfmolaa", sum := "857dff3bccaae2dbdc905f1c84153dea96132965d268d1a08b3dfb9cf385ff54", func := "carling/carlinglaw14.ExecRuns", spec := "execRuns", inPlace := ["internal/bytealg.IndexByteString", "internal/bytealg.IndexString"], unfollowed := true, recurses := true, named := ["internal/bytealg.MaxLen"], apart := false }
def ExecRunsSaid : Prop := execRunsRow.holds Try.pinned (OpenSpec.ofChange execRunsSpec)

/-- ITS FALSE NEIGHBOUR: 'it returns false'. Refute it at one input. -/
def execRunsWrong : ChangeSpec := { name := "execRuns", fn := fun _ => fun
  | [d1, d2, d3] => { results := [.lit (.bool false)], args := [d1, d2, d3] }
  | _ => none }
def ExecRunsWrongFalsely : Prop := execRunsRow.holds Try.pinned (OpenSpec.ofChange execRunsWrong)

/-- 'carlinglaw15.ObjfBack': WHATEVER THE INPUT: true; the input reads as it did. -/
def objfBackSpec : ChangeSpec := { name := "objfBack", fn := fun _ => fun
  | [d1, d2, d3] => { results := [.lit (.bool true)], args := [d1, d2, d3] }
  | _ => none }
def objfBackRow : OpenClaim := { program := "ytddnbpgibfmolaa", sum := "857dff3bccaae2dbdc905f1c84153dea96132965d268d1a08b3dfb9cf385ff54", func := "carling/carlinglaw15.ObjfBack", spec := "objfBack", inPlace := ["internal/bytealg.IndexByteString", "internal/bytealg.IndexString"], unfollowed := true, recurses := true, named := ["internal/bytealg.MaxLen"], apart := false }
def ObjfBackSaid : Prop := objfBackRow.holds Try.pinned (OpenSpec.ofChange objfBackSpec)

/-- ITS FALSE NEIGHBOUR: 'it returns false'. Refute it at one input. -/
def objfBackWrong : ChangeSpec := { name := "objfBack", fn := fun _ => fun
  | [d1, d2, d3] => { results := [.lit (.bool false)], args := [d1, d2, d3] }
  | _ => none }
def ObjfBackWrongFalsely : Prop := objfBackRow.holds Try.pinned (OpenSpec.ofChange objfBackWrong)

/-- 'carlinglaw15.ObjfCut': WHATEVER THE INPUT: true; the input reads as it did. -/
def objfCutSpec : ChangeSpec := { name := "objfCut", fn := fun _ => fun
  | [d1, d2, d3] => { results := [.lit (.bool true)], args := [d1, d2, d3] }
  | _ => none }
def objfCutRow : OpenClaim := { program := "ytddnbpgibfmolaa", sum := "857dff3bccaae2dbdc905f1c84153dea96132965d268d1a08b3dfb9cf385ff54", func := "carling/carlinglaw15.ObjfCut", spec := "objfCut", inPlace := ["internal/bytealg.IndexByteString", "internal/bytealg.IndexString"], unfollowed := true, recurses := true, named := ["internal/bytealg.MaxLen"], apart := false }
def ObjfCutSaid : Prop := objfCutRow.holds Try.pinned (OpenSpec.ofChange objfCutSpec)

/-- ITS FALSE NEIGHBOUR: 'it returns false'. Refute it at one input. -/
def objfCutWrong : ChangeSpec := { name := "objfCut", fn := fun _ => fun
  | [d1, d2, d3] => { results := [.lit (.bool false)], args := [d1, d2, d3] }
  | _ => none }
def ObjfCutWrongFalsely : Prop := objfCutRow.holds Try.pinned (OpenSpec.ofChange objfCutWrong)

/-- 'carlinglaw15.ObjfImages': WHATEVER THE INPUT: true; the input reads as it did. -/
def objfImagesSpec : ChangeSpec := { name := "objfImages", fn := fun _ => fun
  | [d] => { results := [.lit (.bool true)], args := [d] }
  | _ => none }
def objfImagesRow : OpenClaim := { program := "ytddnbpgibfmolaa", sum := "857dff3bccaae2dbdc905f1c84153dea96132965d268d1a08b3dfb9cf385ff54", func := "carling/carlinglaw15.ObjfImages", spec := "objfImages", inPlace := ["internal/bytealg.IndexByteString", "internal/bytealg.IndexString"], unfollowed := true, recurses := true, named := ["internal/bytealg.MaxLen"], apart := false }
def ObjfImagesSaid : Prop := objfImagesRow.holds Try.pinned (OpenSpec.ofChange objfImagesSpec)

/-- ITS FALSE NEIGHBOUR: 'it returns false'. Refute it at one input. -/
def objfImagesWrong : ChangeSpec := { name := "objfImages", fn := fun _ => fun
  | [d] => { results := [.lit (.bool false)], args := [d] }
  | _ => none }
def ObjfImagesWrongFalsely : Prop := objfImagesRow.holds Try.pinned (OpenSpec.ofChange objfImagesWrong)

/-- 'carlinglaw15.ObjfObjects': WHATEVER THE INPUT: true; the input reads as it did. -/
def objfObjectsSpec : ChangeSpec := { name := "objfObjects", fn := fun _ => fun
  | [d] => { results := [.lit (.bool true)], args := [d] }
  | _ => none }
def objfObjectsRow : OpenClaim := { program := "ytddnbpgibfmolaa", sum := "857dff3bccaae2dbdc905f1c84153dea96132965d268d1a08b3dfb9cf385ff54", func := "carling/carlinglaw15.ObjfObjects", spec := "objfObjects", inPlace := ["internal/bytealg.IndexByteString", "internal/bytealg.IndexString"], unfollowed := true, recurses := true, named := ["internal/bytealg.MaxLen"], apart := false }
def ObjfObjectsSaid : Prop := objfObjectsRow.holds Try.pinned (OpenSpec.ofChange objfObjectsSpec)

/-- ITS FALSE NEIGHBOUR: 'it returns false'. Refute it at one input. -/
def objfObjectsWrong : ChangeSpec := { name := "objfObjects", fn := fun _ => fun
  | [d] => { results := [.lit (.bool false)], args := [d] }
  | _ => none }
def ObjfObjectsWrongFalsely : Prop := objfObjectsRow.holds Try.pinned (OpenSpec.ofChange objfObjectsWrong)

/-- 'carlinglaw15.ObjfUnlike': WHATEVER THE INPUT: true; the input reads as it did. -/
def objfUnlikeSpec : ChangeSpec := { name := "objfUnlike", fn := fun _ => fun
  | [d1, d2] => { results := [.lit (.bool true)], args := [d1, d2] }
  | _ => none }
def objfUnlikeRow : OpenClaim := { program := "ytddnbpgibfmolaa", sum := "857dff3bccaae2dbdc905f1c84153dea96132965d268d1a08b3dfb9cf385ff54", func := "carling/carlinglaw15.ObjfUnlike", spec := "objfUnlike", inPlace := ["internal/bytealg.IndexByteString", "internal/bytealg.IndexString"], unfollowed := true, recurses := true, named := ["internal/bytealg.MaxLen"], apart := false }
def ObjfUnlikeSaid : Prop := objfUnlikeRow.holds Try.pinned (OpenSpec.ofChange objfUnlikeSpec)

/-- ITS FALSE NEIGHBOUR: 'it returns false'. Refute it at one input. -/
def objfUnlikeWrong : ChangeSpec := { name := "objfUnlike", fn := fun _ => fun
  | [d1, d2] => { results := [.lit (.bool false)], args := [d1, d2] }
  | _ => none }
def ObjfUnlikeWrongFalsely : Prop := objfUnlikeRow.holds Try.pinned (OpenSpec.ofChange objfUnlikeWrong)

/- THE SECOND FORM. 'bulk': how many values and letters a reading holds, each counted each time it is reached (what is shared counts as often as it is met; a slice's spare places count too). A statement '..UptoSaid' is the law's where the arguments, and the package variables that the reading takes, are together of bulk at most 1048576: NARROWER than '..Said'. Prove '..Said' where nothing that the law and all that it calls make is longer than what came in: it says more and counts as full. Else prove '..UptoSaid'. A law counts once. -/
mutual
def uptoBulk {H : Type} : DataW H → Nat
  | .lit (.string bytes) => bytes.length + 1
  | .lit _ => 1
  | .nil => 1
  | .ptr d => uptoBulk d + 1
  | .slice elems spare => uptoBulkAll elems + uptoBulkAll spare + 1
  | .agg parts => uptoBulkAll parts + 1
  | .iface _ d => uptoBulk d + 1
  | .map entries => uptoBulkEntries entries + 1
  | .held _ => 1
def uptoBulkAll {H : Type} : List (DataW H) → Nat
  | [] => 0
  | d :: r => uptoBulk d + uptoBulkAll r
def uptoBulkEntries {H : Type} : List (Lit × DataW H) → Nat
  | [] => 0
  | x :: r => uptoBulkEntry x + uptoBulkEntries r
def uptoBulkEntry {H : Type} : Lit × DataW H → Nat
  | (.string bytes, d) => bytes.length + uptoBulk d + 1
  | (_, d) => uptoBulk d + 1
 end
def uptoSmall : (H : Type) → List (DataW H) → Bool := fun _ ds => decide (uptoBulkAll ds ≤ 1048576)
def OpenSpec.upto (s : _root_.Go.ChangeSpec) : _root_.Go.OpenSpec := { _root_.Go.OpenSpec.ofChange s with cond := some uptoSmall }

/-- 'carlinglaw14.ExecCells', WHERE WHAT IT READS IS OF BULK AT MOST 1048576: true; the input reads as it did. -/
def execCellsUptoRow : OpenClaim := { program := "ytddnbpgibfmolaa", sum := "857dff3bccaae2dbdc905f1c84153dea96132965d268d1a08b3dfb9cf385ff54", func := "carling/carlinglaw14.ExecCells", spec := "execCells", inPlace := ["internal/bytealg.IndexByteString", "internal/bytealg.IndexString"], unfollowed := true, recurses := true, named := ["internal/bytealg.MaxLen"], apart := false, narrowed := true }
def ExecCellsUptoSaid : Prop := execCellsUptoRow.holds Try.pinned (OpenSpec.upto execCellsSpec)

/-- 'carlinglaw14.ExecDeep', WHERE WHAT IT READS IS OF BULK AT MOST 1048576: true; the input reads as it did. -/
def execDeepUptoRow : OpenClaim := { program := "ytddnbpgibfmolaa", sum := "857dff3bccaae2dbdc905f1c84153dea96132965d268d1a08b3dfb9cf385ff54", func := "carling/carlinglaw14.ExecDeep", spec := "execDeep", inPlace := ["internal/bytealg.IndexByteString", "internal/bytealg.IndexString"], unfollowed := true, recurses := true, named := ["internal/bytealg.MaxLen"], apart := false, narrowed := true }
def ExecDeepUptoSaid : Prop := execDeepUptoRow.holds Try.pinned (OpenSpec.upto execDeepSpec)

/-- 'carlinglaw14.ExecGoes', WHERE WHAT IT READS IS OF BULK AT MOST 1048576: true; the input reads as it did. -/
def execGoesUptoRow : OpenClaim := { program := "ytddnbpgibfmolaa", sum := "857dff3bccaae2dbdc905f1c84153dea96132965d268d1a08b3dfb9cf385ff54", func := "carling/carlinglaw14.ExecGoes", spec := "execGoes", inPlace := ["internal/bytealg.IndexByteString", "internal/bytealg.IndexString"], unfollowed := true, recurses := true, named := ["internal/bytealg.MaxLen"], apart := false, narrowed := true }
def ExecGoesUptoSaid : Prop := execGoesUptoRow.holds Try.pinned (OpenSpec.upto execGoesSpec)

/-- 'carlinglaw14.ExecMath', WHERE WHAT IT READS IS OF BULK AT MOST 1048576: true; the input reads as it did. -/
def execMathUptoRow : OpenClaim := { program := "ytddnbpgibfmolaa", sum := "857dff3bccaae2dbdc905f1c84153dea96132965d268d1a08b3dfb9cf385ff54", func := "carling/carlinglaw14.ExecMath", spec := "execMath", inPlace := ["internal/bytealg.IndexByteString", "internal/bytealg.IndexString"], unfollowed := true, recurses := true, named := ["internal/bytealg.MaxLen"], apart := false, narrowed := true }
def ExecMathUptoSaid : Prop := execMathUptoRow.holds Try.pinned (OpenSpec.upto execMathSpec)

/-- 'carlinglaw14.ExecMore', WHERE WHAT IT READS IS OF BULK AT MOST 1048576: true; the input reads as it did. -/
def execMoreUptoRow : OpenClaim := { program := "ytddnbpgibfmolaa", sum := "857dff3bccaae2dbdc905f1c84153dea96132965d268d1a08b3dfb9cf385ff54", func := "carling/carlinglaw14.ExecMore", spec := "execMore", inPlace := ["internal/bytealg.IndexByteString", "internal/bytealg.IndexString"], unfollowed := true, recurses := true, named := ["internal/bytealg.MaxLen"], apart := false, narrowed := true }
def ExecMoreUptoSaid : Prop := execMoreUptoRow.holds Try.pinned (OpenSpec.upto execMoreSpec)

/-- 'carlinglaw14.ExecRuns', WHERE WHAT IT READS IS OF BULK AT MOST 1048576: true; the input reads as it did. -/
def execRunsUptoRow : OpenClaim := { program := "ytddnbpgibfmolaa", sum := "857dff3bccaae2dbdc905f1c84153dea96132965d268d1a08b3dfb9cf385ff54", func := "carling/carlinglaw14.ExecRuns", spec := "execRuns", inPlace := ["internal/bytealg.IndexByteString", "internal/bytealg.IndexString"], unfollowed := true, recurses := true, named := ["internal/bytealg.MaxLen"], apart := false, narrowed := true }
def ExecRunsUptoSaid : Prop := execRunsUptoRow.holds Try.pinned (OpenSpec.upto execRunsSpec)

/-- 'carlinglaw15.ObjfBack', WHERE WHAT IT READS IS OF BULK AT MOST 1048576: true; the input reads as it did. -/
def objfBackUptoRow : OpenClaim := { program := "ytddnbpgibfmolaa", sum := "857dff3bccaae2dbdc905f1c84153dea96132965d268d1a08b3dfb9cf385ff54", func := "carling/carlinglaw15.ObjfBack", spec := "objfBack", inPlace := ["internal/bytealg.IndexByteString", "internal/bytealg.IndexString"], unfollowed := true, recurses := true, named := ["internal/bytealg.MaxLen"], apart := false, narrowed := true }
def ObjfBackUptoSaid : Prop := objfBackUptoRow.holds Try.pinned (OpenSpec.upto objfBackSpec)

/-- 'carlinglaw15.ObjfCut', WHERE WHAT IT READS IS OF BULK AT MOST 1048576: true; the input reads as it did. -/
def objfCutUptoRow : OpenClaim := { program := "ytddnbpgibfmolaa", sum := "857dff3bccaae2dbdc905f1c84153dea96132965d268d1a08b3dfb9cf385ff54", func := "carling/carlinglaw15.ObjfCut", spec := "objfCut", inPlace := ["internal/bytealg.IndexByteString", "internal/bytealg.IndexString"], unfollowed := true, recurses := true, named := ["internal/bytealg.MaxLen"], apart := false, narrowed := true }
def ObjfCutUptoSaid : Prop := objfCutUptoRow.holds Try.pinned (OpenSpec.upto objfCutSpec)

/-- 'carlinglaw15.ObjfImages', WHERE WHAT IT READS IS OF BULK AT MOST 1048576: true; the input reads as it did. -/
def objfImagesUptoRow : OpenClaim := { program := "ytddnbpgibfmolaa", sum := "857dff3bccaae2dbdc905f1c84153dea96132965d268d1a08b3dfb9cf385ff54", func := "carling/carlinglaw15.ObjfImages", spec := "objfImages", inPlace := ["internal/bytealg.IndexByteString", "internal/bytealg.IndexString"], unfollowed := true, recurses := true, named := ["internal/bytealg.MaxLen"], apart := false, narrowed := true }
def ObjfImagesUptoSaid : Prop := objfImagesUptoRow.holds Try.pinned (OpenSpec.upto objfImagesSpec)

/-- 'carlinglaw15.ObjfObjects', WHERE WHAT IT READS IS OF BULK AT MOST 1048576: true; the input reads as it did. -/
def objfObjectsUptoRow : OpenClaim := { program := "ytddnbpgibfmolaa", sum := "857dff3bccaae2dbdc905f1c84153dea96132965d268d1a08b3dfb9cf385ff54", func := "carling/carlinglaw15.ObjfObjects", spec := "objfObjects", inPlace := ["internal/bytealg.IndexByteString", "internal/bytealg.IndexString"], unfollowed := true, recurses := true, named := ["internal/bytealg.MaxLen"], apart := false, narrowed := true }
def ObjfObjectsUptoSaid : Prop := objfObjectsUptoRow.holds Try.pinned (OpenSpec.upto objfObjectsSpec)

/-- 'carlinglaw15.ObjfUnlike', WHERE WHAT IT READS IS OF BULK AT MOST 1048576: true; the input reads as it did. -/
def objfUnlikeUptoRow : OpenClaim := { program := "ytddnbpgibfmolaa", sum := "857dff3bccaae2dbdc905f1c84153dea96132965d268d1a08b3dfb9cf385ff54", func := "carling/carlinglaw15.ObjfUnlike", spec := "objfUnlike", inPlace := ["internal/bytealg.IndexByteString", "internal/bytealg.IndexString"], unfollowed := true, recurses := true, named := ["internal/bytealg.MaxLen"], apart := false, narrowed := true }
def ObjfUnlikeUptoSaid : Prop := objfUnlikeUptoRow.holds Try.pinned (OpenSpec.upto objfUnlikeSpec)

end Rows
end Go.Proofs.Ytddnbpgibfmolaa
