/-
  No cell of these rows narrows 'for every input' (looked for: loops, veiled, ifaces, maps, wideKeys, modest, calm, conditions, laid).
  DERIVED. THE GIVEN ROWS OF THIS SEAT. 7 by the template 'for every input the law returns true; each argument reads behind the call as it read before'; 0 by the template 'total and deterministic' (their statements: YtbenoopgpgffjaaTotals.lean).
  GIVEN WITH THE SEED: the statements are not yours to turn. If you find one false, say at which input.
  Laid BY PROGRAM, IN A SANDBOX (cutbox-rows.mjs): the forced cells as the released guide's own fill.sh prints them over the translation aeb388b941dcdf80… (all of the seat's roots in one cut). By AI agents, Wed Nov 11 2026. No macro, syntax, notation, axiom, sorry.
-/
import Derived.Test.YtbenoopgpgffjaaChecked
import GoSem.Claim
import GoSem.ClaimJoined
import GoSem.ClaimMapViews
import Derived.JoinedTies
import Derived.KernelRfl
namespace Go.Proofs.Ytbenoopgpgffjaa
/- THE CELL 'sum', in the pinned program and in every row, IS THE sha256 OF THE DUMP (.gsa) THAT YtbenoopgpgffjaaProg.lean LOADS. Nothing in Lean hashes anything: it is a label: what it is worth is what the hold of that sum in a sandbox is worth. -/
noncomputable def Try.pinned : Pinned := { name := "ytbenoopgpgffjaa", sum := "aeb388b941dcdf807b175068641e3ec998ae8dd0657ee729bcc3a7c70a654865", checked := Try.checked }
namespace Rows
def none {H : Type} : Left H := { results := [], args := [] }

/-- 'harpsichordlaw02.PackWrites': WHATEVER THE INPUT: true; the input reads as it did. -/
def packWritesSpec : ChangeSpec := { name := "packWrites", fn := fun _ => fun
  | [d] => { results := [.lit (.bool true)], args := [d] }
  | _ => none }
def packWritesRow : OpenClaim := { program := "ytbenoopgpgffjaa", sum := "aeb388b941dcdf807b175068641e3ec998ae8dd0657ee729bcc3a7c70a654865", func := "harpsichord/harpsichordlaw02.PackWrites", spec := "packWrites", apart := false }
def PackWritesSaid : Prop := packWritesRow.holds Try.pinned (OpenSpec.ofChange packWritesSpec)

/-- ITS FALSE NEIGHBOUR: 'it returns false'. Refute it at one input. -/
def packWritesWrong : ChangeSpec := { name := "packWrites", fn := fun _ => fun
  | [d] => { results := [.lit (.bool false)], args := [d] }
  | _ => none }
def PackWritesWrongFalsely : Prop := packWritesRow.holds Try.pinned (OpenSpec.ofChange packWritesWrong)

/-- 'harpsichordlaw02.PackReads': WHATEVER THE INPUT: true; the input reads as it did. -/
def packReadsSpec : ChangeSpec := { name := "packReads", fn := fun _ => fun
  | [d1, d2] => { results := [.lit (.bool true)], args := [d1, d2] }
  | _ => none }
def packReadsRow : OpenClaim := { program := "ytbenoopgpgffjaa", sum := "aeb388b941dcdf807b175068641e3ec998ae8dd0657ee729bcc3a7c70a654865", func := "harpsichord/harpsichordlaw02.PackReads", spec := "packReads", apart := false }
def PackReadsSaid : Prop := packReadsRow.holds Try.pinned (OpenSpec.ofChange packReadsSpec)

/-- ITS FALSE NEIGHBOUR: 'it returns false'. Refute it at one input. -/
def packReadsWrong : ChangeSpec := { name := "packReads", fn := fun _ => fun
  | [d1, d2] => { results := [.lit (.bool false)], args := [d1, d2] }
  | _ => none }
def PackReadsWrongFalsely : Prop := packReadsRow.holds Try.pinned (OpenSpec.ofChange packReadsWrong)

/-- 'harpsichordlaw02.PackAgain': WHATEVER THE INPUT: true; the input reads as it did. -/
def packAgainSpec : ChangeSpec := { name := "packAgain", fn := fun _ => fun
  | [d1, d2] => { results := [.lit (.bool true)], args := [d1, d2] }
  | _ => none }
def packAgainRow : OpenClaim := { program := "ytbenoopgpgffjaa", sum := "aeb388b941dcdf807b175068641e3ec998ae8dd0657ee729bcc3a7c70a654865", func := "harpsichord/harpsichordlaw02.PackAgain", spec := "packAgain", apart := false }
def PackAgainSaid : Prop := packAgainRow.holds Try.pinned (OpenSpec.ofChange packAgainSpec)

/-- ITS FALSE NEIGHBOUR: 'it returns false'. Refute it at one input. -/
def packAgainWrong : ChangeSpec := { name := "packAgain", fn := fun _ => fun
  | [d1, d2] => { results := [.lit (.bool false)], args := [d1, d2] }
  | _ => none }
def PackAgainWrongFalsely : Prop := packAgainRow.holds Try.pinned (OpenSpec.ofChange packAgainWrong)

/-- 'harpsichordlaw02.PackBack': WHATEVER THE INPUT: true; the input reads as it did. -/
def packBackSpec : ChangeSpec := { name := "packBack", fn := fun _ => fun
  | [d1, d2] => { results := [.lit (.bool true)], args := [d1, d2] }
  | _ => none }
def packBackRow : OpenClaim := { program := "ytbenoopgpgffjaa", sum := "aeb388b941dcdf807b175068641e3ec998ae8dd0657ee729bcc3a7c70a654865", func := "harpsichord/harpsichordlaw02.PackBack", spec := "packBack", apart := false }
def PackBackSaid : Prop := packBackRow.holds Try.pinned (OpenSpec.ofChange packBackSpec)

/-- ITS FALSE NEIGHBOUR: 'it returns false'. Refute it at one input. -/
def packBackWrong : ChangeSpec := { name := "packBack", fn := fun _ => fun
  | [d1, d2] => { results := [.lit (.bool false)], args := [d1, d2] }
  | _ => none }
def PackBackWrongFalsely : Prop := packBackRow.holds Try.pinned (OpenSpec.ofChange packBackWrong)

/-- 'harpsichordlaw02.PackCuts': WHATEVER THE INPUT: true; the input reads as it did. -/
def packCutsSpec : ChangeSpec := { name := "packCuts", fn := fun _ => fun
  | [d1, d2] => { results := [.lit (.bool true)], args := [d1, d2] }
  | _ => none }
def packCutsRow : OpenClaim := { program := "ytbenoopgpgffjaa", sum := "aeb388b941dcdf807b175068641e3ec998ae8dd0657ee729bcc3a7c70a654865", func := "harpsichord/harpsichordlaw02.PackCuts", spec := "packCuts", apart := false }
def PackCutsSaid : Prop := packCutsRow.holds Try.pinned (OpenSpec.ofChange packCutsSpec)

/-- ITS FALSE NEIGHBOUR: 'it returns false'. Refute it at one input. -/
def packCutsWrong : ChangeSpec := { name := "packCuts", fn := fun _ => fun
  | [d1, d2] => { results := [.lit (.bool false)], args := [d1, d2] }
  | _ => none }
def PackCutsWrongFalsely : Prop := packCutsRow.holds Try.pinned (OpenSpec.ofChange packCutsWrong)

/-- 'harpsichordlaw02.PackJoins': WHATEVER THE INPUT: true; the input reads as it did. -/
def packJoinsSpec : ChangeSpec := { name := "packJoins", fn := fun _ => fun
  | [d1, d2] => { results := [.lit (.bool true)], args := [d1, d2] }
  | _ => none }
def packJoinsRow : OpenClaim := { program := "ytbenoopgpgffjaa", sum := "aeb388b941dcdf807b175068641e3ec998ae8dd0657ee729bcc3a7c70a654865", func := "harpsichord/harpsichordlaw02.PackJoins", spec := "packJoins", apart := false }
def PackJoinsSaid : Prop := packJoinsRow.holds Try.pinned (OpenSpec.ofChange packJoinsSpec)

/-- ITS FALSE NEIGHBOUR: 'it returns false'. Refute it at one input. -/
def packJoinsWrong : ChangeSpec := { name := "packJoins", fn := fun _ => fun
  | [d1, d2] => { results := [.lit (.bool false)], args := [d1, d2] }
  | _ => none }
def PackJoinsWrongFalsely : Prop := packJoinsRow.holds Try.pinned (OpenSpec.ofChange packJoinsWrong)

/-- 'harpsichordlaw02.PackKinds': WHATEVER THE INPUT: true; the input reads as it did. -/
def packKindsSpec : ChangeSpec := { name := "packKinds", fn := fun _ => fun
  | [d] => { results := [.lit (.bool true)], args := [d] }
  | _ => none }
def packKindsRow : OpenClaim := { program := "ytbenoopgpgffjaa", sum := "aeb388b941dcdf807b175068641e3ec998ae8dd0657ee729bcc3a7c70a654865", func := "harpsichord/harpsichordlaw02.PackKinds", spec := "packKinds", apart := false }
def PackKindsSaid : Prop := packKindsRow.holds Try.pinned (OpenSpec.ofChange packKindsSpec)

/-- ITS FALSE NEIGHBOUR: 'it returns false'. Refute it at one input. -/
def packKindsWrong : ChangeSpec := { name := "packKinds", fn := fun _ => fun
  | [d] => { results := [.lit (.bool false)], args := [d] }
  | _ => none }
def PackKindsWrongFalsely : Prop := packKindsRow.holds Try.pinned (OpenSpec.ofChange packKindsWrong)

/- THE SECOND FORM. 'bulk': how many values and letters a reading holds, each counted each time it is reached (what is shared counts as often as it is met; a slice's spare places count too). A statement '..UptoSaid' is the law's where the arguments, and the package variables that the reading takes, are together of bulk at most 1048576: NARROWER than '..Said'. Prove '..Said' where nothing that the law and all that it calls make is longer than what came in: it says more and counts as full. Else prove '..UptoSaid'. A law counts once. -/
mutual
def uptoBulk {H : Type} : DataW H → Nat
  | .lit (.string bytes) => bytes.length + 1
  | .lit _ => 1
  | .nil => 1
  | .ptr d => uptoBulk d + 1
  | .slice elems spare => uptoBulkAll elems + uptoBulkAll spare + 1
  | .agg parts => uptoBulkAll parts + 1
  | .iface _ d => uptoBulk d + 1
  | .map entries => uptoBulkEntries entries + 1
  | .held _ => 1
def uptoBulkAll {H : Type} : List (DataW H) → Nat
  | [] => 0
  | d :: r => uptoBulk d + uptoBulkAll r
def uptoBulkEntries {H : Type} : List (Lit × DataW H) → Nat
  | [] => 0
  | x :: r => uptoBulkEntry x + uptoBulkEntries r
def uptoBulkEntry {H : Type} : Lit × DataW H → Nat
  | (.string bytes, d) => bytes.length + uptoBulk d + 1
  | (_, d) => uptoBulk d + 1
 end
def uptoSmall : (H : Type) → List (DataW H) → Bool := fun _ ds => decide (uptoBulkAll ds ≤ 1048576)
def OpenSpec.upto (s : _root_.Go.ChangeSpec) : _root_.Go.OpenSpec := { _root_.Go.OpenSpec.ofChange s with cond := some uptoSmall }

/-- 'harpsichordlaw02.PackWrites', WHERE WHAT IT READS IS OF BULK AT MOST 1048576: true; the input reads as it did. -/
def packWritesUptoRow : OpenClaim := { program := "ytbenoopgpgffjaa", sum := "aeb388b941dcdf807b175068641e3ec998ae8dd0657ee729bcc3a7c70a654865", func := "harpsichord/harpsichordlaw02.PackWrites", spec := "packWrites", apart := false, narrowed := true }
def PackWritesUptoSaid : Prop := packWritesUptoRow.holds Try.pinned (OpenSpec.upto packWritesSpec)

/-- 'harpsichordlaw02.PackReads', WHERE WHAT IT READS IS OF BULK AT MOST 1048576: true; the input reads as it did. -/
def packReadsUptoRow : OpenClaim := { program := "ytbenoopgpgffjaa", sum := "aeb388b941dcdf807b175068641e3ec998ae8dd0657ee729bcc3a7c70a654865", func := "harpsichord/harpsichordlaw02.PackReads", spec := "packReads", apart := false, narrowed := true }
def PackReadsUptoSaid : Prop := packReadsUptoRow.holds Try.pinned (OpenSpec.upto packReadsSpec)

/-- 'harpsichordlaw02.PackAgain', WHERE WHAT IT READS IS OF BULK AT MOST 1048576: true; the input reads as it did. -/
def packAgainUptoRow : OpenClaim := { program := "ytbenoopgpgffjaa", sum := "aeb388b941dcdf807b175068641e3ec998ae8dd0657ee729bcc3a7c70a654865", func := "harpsichord/harpsichordlaw02.PackAgain", spec := "packAgain", apart := false, narrowed := true }
def PackAgainUptoSaid : Prop := packAgainUptoRow.holds Try.pinned (OpenSpec.upto packAgainSpec)

/-- 'harpsichordlaw02.PackBack', WHERE WHAT IT READS IS OF BULK AT MOST 1048576: true; the input reads as it did. -/
def packBackUptoRow : OpenClaim := { program := "ytbenoopgpgffjaa", sum := "aeb388b941dcdf807b175068641e3ec998ae8dd0657ee729bcc3a7c70a654865", func := "harpsichord/harpsichordlaw02.PackBack", spec := "packBack", apart := false, narrowed := true }
def PackBackUptoSaid : Prop := packBackUptoRow.holds Try.pinned (OpenSpec.upto packBackSpec)

/-- 'harpsichordlaw02.PackCuts', WHERE WHAT IT READS IS OF BULK AT MOST 1048576: true; the input reads as it did. -/
def packCutsUptoRow : OpenClaim := { program := "ytbenoopgpgffjaa", sum := "aeb388b941dcdf807b175068641e3ec998ae8dd0657ee729bcc3a7c70a654865", func := "harpsichord/harpsichordlaw02.PackCuts", spec := "packCuts", apart := false, narrowed := true }
def PackCutsUptoSaid : Prop := packCutsUptoRow.holds Try.pinned (OpenSpec.upto packCutsSpec)

/-- 'harpsichordlaw02.PackJoins', WHERE WHAT IT READS IS OF BULK AT MOST 1048576: true; the input reads as it did. -/
def packJoinsUptoRow : OpenClaim := { program := "ytbenoopgpgffjaa", sum := "aeb388b941dcdf807b175068641e3ec998ae8dd0657ee729bcc3a7c70a654865", func := "harpsichord/harpsichordlaw02.PackJoins", spec := "packJoins", apart := false, narrowed := true }
def PackJoinsUptoSaid : Prop := packJoinsUptoRow.holds Try.pinned (OpenSpec.upto packJoinsSpec)

/-- 'harpsichordlaw02.PackKinds', WHERE WHAT IT READS IS OF BULK AT MOST 1048576: true; the input reads as it did. -/
def packKindsUptoRow : OpenClaim := { program := "ytbenoopgpgffjaa", sum := "aeb388b941dcdf807b175068641e3ec998ae8dd0657ee729bcc3a7c70a654865", func := "harpsichord/harpsichordlaw02.PackKinds", spec := "packKinds", apart := false, narrowed := true }
def PackKindsUptoSaid : Prop := packKindsUptoRow.holds Try.pinned (OpenSpec.upto packKindsSpec)

end Rows
end Go.Proofs.Ytbenoopgpgffjaa
