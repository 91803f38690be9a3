/-
  No cell of these rows narrows 'for every input' (looked for: loops, veiled, ifaces, maps, wideKeys, modest, calm, conditions, laid).
  DERIVED. THE GIVEN ROWS OF THIS SEAT. 3 by the template 'for every input the law returns true; each argument reads behind the call as it read before'; 0 by the template 'total and deterministic' (their statements: YtfdgipbnbalcjaaTotals.lean).
  GIVEN WITH THE SEED: the statements are not yours to turn. If you find one false, say at which input.
  Laid BY PROGRAM, IN A SANDBOX (cutbox-rows.mjs): the forced cells as the released guide's own fill.sh prints them over the translation fe8563f05222845c… (all of the seat's roots in one cut). By AI agents, Wed Nov 11 2026. No macro, syntax, notation, axiom, sorry.
-/
import Derived.Test.YtfdgipbnbalcjaaChecked
import GoSem.Claim
import GoSem.ClaimJoined
import GoSem.ClaimMapViews
import Derived.JoinedTies
import Derived.KernelRfl
namespace Go.Proofs.Ytfdgipbnbalcjaa
/- THE CELL 'sum', in the pinned program and in every row, IS THE sha256 OF THE DUMP (.gsa) THAT YtfdgipbnbalcjaaProg.lean LOADS. Nothing in Lean hashes anything: it is a label: what it is worth is what the hold of that sum in a sandbox is worth. -/
noncomputable def Try.pinned : Pinned := { name := "ytfdgipbnbalcjaa", sum := "fe8563f05222845c26c6908ebe0aecca926da91ad05d160b69d67fcc83ed0fa1", checked := Try.checked }
namespace Rows
def none {H : Type} : Left H := { results := [], args := [] }

/-- 'mezzotintlaw20.ChunksParts': WHATEVER THE INPUT: true; the input reads as it did. -/
def chunksPartsSpec : ChangeSpec := { name := "chunksParts", fn := fun _ => fun
  | [d1, d2] => { results := [.lit (.bool true)], args := [d1, d2] }
  | _ => none }
def chunksPartsRow : OpenClaim := { program := "ytfdgipbnbalcjaa", sum := "fe8563f05222845c26c6908ebe0aecca926da91ad05d160b69d67fcc83ed0fa1", func := "mezzotint/mezzotintlaw20.ChunksParts", spec := "chunksParts", apart := false }
def ChunksPartsSaid : Prop := chunksPartsRow.holds Try.pinned (OpenSpec.ofChange chunksPartsSpec)

/-- ITS FALSE NEIGHBOUR: 'it returns false'. Refute it at one input. -/
def chunksPartsWrong : ChangeSpec := { name := "chunksParts", fn := fun _ => fun
  | [d1, d2] => { results := [.lit (.bool false)], args := [d1, d2] }
  | _ => none }
def ChunksPartsWrongFalsely : Prop := chunksPartsRow.holds Try.pinned (OpenSpec.ofChange chunksPartsWrong)

/-- 'mezzotintlaw20.ChunksWhole': WHATEVER THE INPUT: true; the input reads as it did. -/
def chunksWholeSpec : ChangeSpec := { name := "chunksWhole", fn := fun _ => fun
  | [d] => { results := [.lit (.bool true)], args := [d] }
  | _ => none }
def chunksWholeRow : OpenClaim := { program := "ytfdgipbnbalcjaa", sum := "fe8563f05222845c26c6908ebe0aecca926da91ad05d160b69d67fcc83ed0fa1", func := "mezzotint/mezzotintlaw20.ChunksWhole", spec := "chunksWhole", apart := false }
def ChunksWholeSaid : Prop := chunksWholeRow.holds Try.pinned (OpenSpec.ofChange chunksWholeSpec)

/-- ITS FALSE NEIGHBOUR: 'it returns false'. Refute it at one input. -/
def chunksWholeWrong : ChangeSpec := { name := "chunksWhole", fn := fun _ => fun
  | [d] => { results := [.lit (.bool false)], args := [d] }
  | _ => none }
def ChunksWholeWrongFalsely : Prop := chunksWholeRow.holds Try.pinned (OpenSpec.ofChange chunksWholeWrong)

/-- 'mezzotintlaw20.ChunksFind': WHATEVER THE INPUT: true; the input reads as it did. -/
def chunksFindSpec : ChangeSpec := { name := "chunksFind", fn := fun _ => fun
  | [d1, d2, d3] => { results := [.lit (.bool true)], args := [d1, d2, d3] }
  | _ => none }
def chunksFindRow : OpenClaim := { program := "ytfdgipbnbalcjaa", sum := "fe8563f05222845c26c6908ebe0aecca926da91ad05d160b69d67fcc83ed0fa1", func := "mezzotint/mezzotintlaw20.ChunksFind", spec := "chunksFind", apart := false }
def ChunksFindSaid : Prop := chunksFindRow.holds Try.pinned (OpenSpec.ofChange chunksFindSpec)

/-- ITS FALSE NEIGHBOUR: 'it returns false'. Refute it at one input. -/
def chunksFindWrong : ChangeSpec := { name := "chunksFind", fn := fun _ => fun
  | [d1, d2, d3] => { results := [.lit (.bool false)], args := [d1, d2, d3] }
  | _ => none }
def ChunksFindWrongFalsely : Prop := chunksFindRow.holds Try.pinned (OpenSpec.ofChange chunksFindWrong)

/- THE SECOND FORM. 'bulk': how many values and letters a reading holds, each counted each time it is reached (what is shared counts as often as it is met; a slice's spare places count too). A statement '..UptoSaid' is the law's where the arguments, and the package variables that the reading takes, are together of bulk at most 1048576: NARROWER than '..Said'. Prove '..Said' where nothing that the law and all that it calls make is longer than what came in: it says more and counts as full. Else prove '..UptoSaid'. A law counts once. -/
mutual
def uptoBulk {H : Type} : DataW H → Nat
  | .lit (.string bytes) => bytes.length + 1
  | .lit _ => 1
  | .nil => 1
  | .ptr d => uptoBulk d + 1
  | .slice elems spare => uptoBulkAll elems + uptoBulkAll spare + 1
  | .agg parts => uptoBulkAll parts + 1
  | .iface _ d => uptoBulk d + 1
  | .map entries => uptoBulkEntries entries + 1
  | .held _ => 1
def uptoBulkAll {H : Type} : List (DataW H) → Nat
  | [] => 0
  | d :: r => uptoBulk d + uptoBulkAll r
def uptoBulkEntries {H : Type} : List (Lit × DataW H) → Nat
  | [] => 0
  | x :: r => uptoBulkEntry x + uptoBulkEntries r
def uptoBulkEntry {H : Type} : Lit × DataW H → Nat
  | (.string bytes, d) => bytes.length + uptoBulk d + 1
  | (_, d) => uptoBulk d + 1
 end
def uptoSmall : (H : Type) → List (DataW H) → Bool := fun _ ds => decide (uptoBulkAll ds ≤ 1048576)
def OpenSpec.upto (s : _root_.Go.ChangeSpec) : _root_.Go.OpenSpec := { _root_.Go.OpenSpec.ofChange s with cond := some uptoSmall }

/-- 'mezzotintlaw20.ChunksParts', WHERE WHAT IT READS IS OF BULK AT MOST 1048576: true; the input reads as it did. -/
def chunksPartsUptoRow : OpenClaim := { program := "ytfdgipbnbalcjaa", sum := "fe8563f05222845c26c6908ebe0aecca926da91ad05d160b69d67fcc83ed0fa1", func := "mezzotint/mezzotintlaw20.ChunksParts", spec := "chunksParts", apart := false, narrowed := true }
def ChunksPartsUptoSaid : Prop := chunksPartsUptoRow.holds Try.pinned (OpenSpec.upto chunksPartsSpec)

/-- 'mezzotintlaw20.ChunksWhole', WHERE WHAT IT READS IS OF BULK AT MOST 1048576: true; the input reads as it did. -/
def chunksWholeUptoRow : OpenClaim := { program := "ytfdgipbnbalcjaa", sum := "fe8563f05222845c26c6908ebe0aecca926da91ad05d160b69d67fcc83ed0fa1", func := "mezzotint/mezzotintlaw20.ChunksWhole", spec := "chunksWhole", apart := false, narrowed := true }
def ChunksWholeUptoSaid : Prop := chunksWholeUptoRow.holds Try.pinned (OpenSpec.upto chunksWholeSpec)

/-- 'mezzotintlaw20.ChunksFind', WHERE WHAT IT READS IS OF BULK AT MOST 1048576: true; the input reads as it did. -/
def chunksFindUptoRow : OpenClaim := { program := "ytfdgipbnbalcjaa", sum := "fe8563f05222845c26c6908ebe0aecca926da91ad05d160b69d67fcc83ed0fa1", func := "mezzotint/mezzotintlaw20.ChunksFind", spec := "chunksFind", apart := false, narrowed := true }
def ChunksFindUptoSaid : Prop := chunksFindUptoRow.holds Try.pinned (OpenSpec.upto chunksFindSpec)

end Rows
end Go.Proofs.Ytfdgipbnbalcjaa
