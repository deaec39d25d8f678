/-
  No cell of these rows narrows 'for every input' (looked for: loops, veiled, ifaces, maps, wideKeys, modest, calm, conditions, laid).
  DERIVED. THE GIVEN ROWS OF THIS SEAT. 6 by the template 'for every input the law returns true; each argument reads behind the call as it read before'; 0 by the template 'total and deterministic' (their statements: YtgdpmebdoipiaaaTotals.lean).
  GIVEN WITH THE SEED: the statements are not yours to turn. If you find one false, say at which input.
  Laid BY PROGRAM, IN A SANDBOX (cutbox-rows.mjs): the forced cells as the released guide's own fill.sh prints them over the translation 5b63325f8c978691… (all of the seat's roots in one cut). By AI agents, Wed Nov 11 2026. No macro, syntax, notation, axiom, sorry.
-/
import Derived.Test.YtgdpmebdoipiaaaChecked
import GoSem.Claim
import GoSem.ClaimJoined
import GoSem.ClaimMapViews
import Derived.JoinedTies
import Derived.KernelRfl
namespace Go.Proofs.Ytgdpmebdoipiaaa
/- THE CELL 'sum', in the pinned program and in every row, IS THE sha256 OF THE DUMP (.gsa) THAT YtgdpmebdoipiaaaProg.lean LOADS. Nothing in Lean hashes anything: it is a label: what it is worth is what the hold of that sum in a sandbox is worth. -/
noncomputable def Try.pinned : Pinned := { name := "ytgdpmebdoipiaaa", sum := "5b63325f8c9786918fab7ae9368b719ce74f5cf147c68012bd7c364595b8c4f6", checked := Try.checked }
namespace Rows
def none {H : Type} : Left H := { results := [], args := [] }

/-- 'ingotlaw5.ChunkBytes': WHATEVER THE INPUT: true; the input reads as it did. -/
def chunkBytesSpec : ChangeSpec := { name := "chunkBytes", fn := fun _ => fun
  | [d1, d2, d3, d4, d5] => { results := [.lit (.bool true)], args := [d1, d2, d3, d4, d5] }
  | _ => none }
def chunkBytesRow : OpenClaim := { program := "ytgdpmebdoipiaaa", sum := "5b63325f8c9786918fab7ae9368b719ce74f5cf147c68012bd7c364595b8c4f6", func := "ingot/ingotlaw5.ChunkBytes", spec := "chunkBytes", unfollowed := true, recurses := true, apart := false }
def ChunkBytesSaid : Prop := chunkBytesRow.holds Try.pinned (OpenSpec.ofChange chunkBytesSpec)

/-- ITS FALSE NEIGHBOUR: 'it returns false'. Refute it at one input. -/
def chunkBytesWrong : ChangeSpec := { name := "chunkBytes", fn := fun _ => fun
  | [d1, d2, d3, d4, d5] => { results := [.lit (.bool false)], args := [d1, d2, d3, d4, d5] }
  | _ => none }
def ChunkBytesWrongFalsely : Prop := chunkBytesRow.holds Try.pinned (OpenSpec.ofChange chunkBytesWrong)

/-- 'ingotlaw5.ChunkBack': WHATEVER THE INPUT: true; the input reads as it did. -/
def chunkBackSpec : ChangeSpec := { name := "chunkBack", fn := fun _ => fun
  | [d1, d2, d3] => { results := [.lit (.bool true)], args := [d1, d2, d3] }
  | _ => none }
def chunkBackRow : OpenClaim := { program := "ytgdpmebdoipiaaa", sum := "5b63325f8c9786918fab7ae9368b719ce74f5cf147c68012bd7c364595b8c4f6", func := "ingot/ingotlaw5.ChunkBack", spec := "chunkBack", unfollowed := true, recurses := true, apart := false }
def ChunkBackSaid : Prop := chunkBackRow.holds Try.pinned (OpenSpec.ofChange chunkBackSpec)

/-- ITS FALSE NEIGHBOUR: 'it returns false'. Refute it at one input. -/
def chunkBackWrong : ChangeSpec := { name := "chunkBack", fn := fun _ => fun
  | [d1, d2, d3] => { results := [.lit (.bool false)], args := [d1, d2, d3] }
  | _ => none }
def ChunkBackWrongFalsely : Prop := chunkBackRow.holds Try.pinned (OpenSpec.ofChange chunkBackWrong)

/-- 'ingotlaw5.ChunkHeads': WHATEVER THE INPUT: true; the input reads as it did. -/
def chunkHeadsSpec : ChangeSpec := { name := "chunkHeads", fn := fun _ => fun
  | [d1, d2, d3, d4] => { results := [.lit (.bool true)], args := [d1, d2, d3, d4] }
  | _ => none }
def chunkHeadsRow : OpenClaim := { program := "ytgdpmebdoipiaaa", sum := "5b63325f8c9786918fab7ae9368b719ce74f5cf147c68012bd7c364595b8c4f6", func := "ingot/ingotlaw5.ChunkHeads", spec := "chunkHeads", unfollowed := true, recurses := true, apart := false }
def ChunkHeadsSaid : Prop := chunkHeadsRow.holds Try.pinned (OpenSpec.ofChange chunkHeadsSpec)

/-- ITS FALSE NEIGHBOUR: 'it returns false'. Refute it at one input. -/
def chunkHeadsWrong : ChangeSpec := { name := "chunkHeads", fn := fun _ => fun
  | [d1, d2, d3, d4] => { results := [.lit (.bool false)], args := [d1, d2, d3, d4] }
  | _ => none }
def ChunkHeadsWrongFalsely : Prop := chunkHeadsRow.holds Try.pinned (OpenSpec.ofChange chunkHeadsWrong)

/-- 'ingotlaw5.ChunkParts': WHATEVER THE INPUT: true; the input reads as it did. -/
def chunkPartsSpec : ChangeSpec := { name := "chunkParts", fn := fun _ => fun
  | [d1, d2, d3] => { results := [.lit (.bool true)], args := [d1, d2, d3] }
  | _ => none }
def chunkPartsRow : OpenClaim := { program := "ytgdpmebdoipiaaa", sum := "5b63325f8c9786918fab7ae9368b719ce74f5cf147c68012bd7c364595b8c4f6", func := "ingot/ingotlaw5.ChunkParts", spec := "chunkParts", unfollowed := true, recurses := true, apart := false }
def ChunkPartsSaid : Prop := chunkPartsRow.holds Try.pinned (OpenSpec.ofChange chunkPartsSpec)

/-- ITS FALSE NEIGHBOUR: 'it returns false'. Refute it at one input. -/
def chunkPartsWrong : ChangeSpec := { name := "chunkParts", fn := fun _ => fun
  | [d1, d2, d3] => { results := [.lit (.bool false)], args := [d1, d2, d3] }
  | _ => none }
def ChunkPartsWrongFalsely : Prop := chunkPartsRow.holds Try.pinned (OpenSpec.ofChange chunkPartsWrong)

/-- 'ingotlaw5.ChunkMixed': WHATEVER THE INPUT: true; the input reads as it did. -/
def chunkMixedSpec : ChangeSpec := { name := "chunkMixed", fn := fun _ => fun
  | [d1, d2, d3] => { results := [.lit (.bool true)], args := [d1, d2, d3] }
  | _ => none }
def chunkMixedRow : OpenClaim := { program := "ytgdpmebdoipiaaa", sum := "5b63325f8c9786918fab7ae9368b719ce74f5cf147c68012bd7c364595b8c4f6", func := "ingot/ingotlaw5.ChunkMixed", spec := "chunkMixed", unfollowed := true, recurses := true, apart := false }
def ChunkMixedSaid : Prop := chunkMixedRow.holds Try.pinned (OpenSpec.ofChange chunkMixedSpec)

/-- ITS FALSE NEIGHBOUR: 'it returns false'. Refute it at one input. -/
def chunkMixedWrong : ChangeSpec := { name := "chunkMixed", fn := fun _ => fun
  | [d1, d2, d3] => { results := [.lit (.bool false)], args := [d1, d2, d3] }
  | _ => none }
def ChunkMixedWrongFalsely : Prop := chunkMixedRow.holds Try.pinned (OpenSpec.ofChange chunkMixedWrong)

/-- 'ingotlaw5.ChunkPlain': WHATEVER THE INPUT: true; the input reads as it did. -/
def chunkPlainSpec : ChangeSpec := { name := "chunkPlain", fn := fun _ => fun
  | [d1, d2, d3] => { results := [.lit (.bool true)], args := [d1, d2, d3] }
  | _ => none }
def chunkPlainRow : OpenClaim := { program := "ytgdpmebdoipiaaa", sum := "5b63325f8c9786918fab7ae9368b719ce74f5cf147c68012bd7c364595b8c4f6", func := "ingot/ingotlaw5.ChunkPlain", spec := "chunkPlain", unfollowed := true, recurses := true, apart := false }
def ChunkPlainSaid : Prop := chunkPlainRow.holds Try.pinned (OpenSpec.ofChange chunkPlainSpec)

/-- ITS FALSE NEIGHBOUR: 'it returns false'. Refute it at one input. -/
def chunkPlainWrong : ChangeSpec := { name := "chunkPlain", fn := fun _ => fun
  | [d1, d2, d3] => { results := [.lit (.bool false)], args := [d1, d2, d3] }
  | _ => none }
def ChunkPlainWrongFalsely : Prop := chunkPlainRow.holds Try.pinned (OpenSpec.ofChange chunkPlainWrong)

/- THE SECOND FORM. 'bulk': how many values and letters a reading holds, each counted each time it is reached (what is shared counts as often as it is met; a slice's spare places count too). A statement '..UptoSaid' is the law's where the arguments, and the package variables that the reading takes, are together of bulk at most 1048576: NARROWER than '..Said'. Prove '..Said' where nothing that the law and all that it calls make is longer than what came in: it says more and counts as full. Else prove '..UptoSaid'. A law counts once. -/
mutual
def uptoBulk {H : Type} : DataW H → Nat
  | .lit (.string bytes) => bytes.length + 1
  | .lit _ => 1
  | .nil => 1
  | .ptr d => uptoBulk d + 1
  | .slice elems spare => uptoBulkAll elems + uptoBulkAll spare + 1
  | .agg parts => uptoBulkAll parts + 1
  | .iface _ d => uptoBulk d + 1
  | .map entries => uptoBulkEntries entries + 1
  | .held _ => 1
def uptoBulkAll {H : Type} : List (DataW H) → Nat
  | [] => 0
  | d :: r => uptoBulk d + uptoBulkAll r
def uptoBulkEntries {H : Type} : List (Lit × DataW H) → Nat
  | [] => 0
  | x :: r => uptoBulkEntry x + uptoBulkEntries r
def uptoBulkEntry {H : Type} : Lit × DataW H → Nat
  | (.string bytes, d) => bytes.length + uptoBulk d + 1
  | (_, d) => uptoBulk d + 1
 end
def uptoSmall : (H : Type) → List (DataW H) → Bool := fun _ ds => decide (uptoBulkAll ds ≤ 1048576)
def OpenSpec.upto (s : _root_.Go.ChangeSpec) : _root_.Go.OpenSpec := { _root_.Go.OpenSpec.ofChange s with cond := some uptoSmall }

/-- 'ingotlaw5.ChunkBytes', WHERE WHAT IT READS IS OF BULK AT MOST 1048576: true; the input reads as it did. -/
def chunkBytesUptoRow : OpenClaim := { program := "ytgdpmebdoipiaaa", sum := "5b63325f8c9786918fab7ae9368b719ce74f5cf147c68012bd7c364595b8c4f6", func := "ingot/ingotlaw5.ChunkBytes", spec := "chunkBytes", unfollowed := true, recurses := true, apart := false, narrowed := true }
def ChunkBytesUptoSaid : Prop := chunkBytesUptoRow.holds Try.pinned (OpenSpec.upto chunkBytesSpec)

/-- 'ingotlaw5.ChunkBack', WHERE WHAT IT READS IS OF BULK AT MOST 1048576: true; the input reads as it did. -/
def chunkBackUptoRow : OpenClaim := { program := "ytgdpmebdoipiaaa", sum := "5b63325f8c9786918fab7ae9368b719ce74f5cf147c68012bd7c364595b8c4f6", func := "ingot/ingotlaw5.ChunkBack", spec := "chunkBack", unfollowed := true, recurses := true, apart := false, narrowed := true }
def ChunkBackUptoSaid : Prop := chunkBackUptoRow.holds Try.pinned (OpenSpec.upto chunkBackSpec)

/-- 'ingotlaw5.ChunkHeads', WHERE WHAT IT READS IS OF BULK AT MOST 1048576: true; the input reads as it did. -/
def chunkHeadsUptoRow : OpenClaim := { program := "ytgdpmebdoipiaaa", sum := "5b63325f8c9786918fab7ae9368b719ce74f5cf147c68012bd7c364595b8c4f6", func := "ingot/ingotlaw5.ChunkHeads", spec := "chunkHeads", unfollowed := true, recurses := true, apart := false, narrowed := true }
def ChunkHeadsUptoSaid : Prop := chunkHeadsUptoRow.holds Try.pinned (OpenSpec.upto chunkHeadsSpec)

/-- 'ingotlaw5.ChunkParts', WHERE WHAT IT READS IS OF BULK AT MOST 1048576: true; the input reads as it did. -/
def chunkPartsUptoRow : OpenClaim := { program := "ytgdpmebdoipiaaa", sum := "5b63325f8c9786918fab7ae9368b719ce74f5cf147c68012bd7c364595b8c4f6", func := "ingot/ingotlaw5.ChunkParts", spec := "chunkParts", unfollowed := true, recurses := true, apart := false, narrowed := true }
def ChunkPartsUptoSaid : Prop := chunkPartsUptoRow.holds Try.pinned (OpenSpec.upto chunkPartsSpec)

/-- 'ingotlaw5.ChunkMixed', WHERE WHAT IT READS IS OF BULK AT MOST 1048576: true; the input reads as it did. -/
def chunkMixedUptoRow : OpenClaim := { program := "ytgdpmebdoipiaaa", sum := "5b63325f8c9786918fab7ae9368b719ce74f5cf147c68012bd7c364595b8c4f6", func := "ingot/ingotlaw5.ChunkMixed", spec := "chunkMixed", unfollowed := true, recurses := true, apart := false, narrowed := true }
def ChunkMixedUptoSaid : Prop := chunkMixedUptoRow.holds Try.pinned (OpenSpec.upto chunkMixedSpec)

/-- 'ingotlaw5.ChunkPlain', WHERE WHAT IT READS IS OF BULK AT MOST 1048576: true; the input reads as it did. -/
def chunkPlainUptoRow : OpenClaim := { program := "ytgdpmebdoipiaaa", sum := "5b63325f8c9786918fab7ae9368b719ce74f5cf147c68012bd7c364595b8c4f6", func := "ingot/ingotlaw5.ChunkPlain", spec := "chunkPlain", unfollowed := true, recurses := true, apart := false, narrowed := true }
def ChunkPlainUptoSaid : Prop := chunkPlainUptoRow.holds Try.pinned (OpenSpec.upto chunkPlainSpec)

end Rows
end Go.Proofs.Ytgdpmebdoipiaaa
