/-
  No cell of these rows narrows 'for every input' (looked for: loops, veiled, ifaces, maps, wideKeys, modest, calm, conditions, laid).
  DERIVED. THE GIVEN ROWS OF THIS SEAT. 5 by the template 'for every input the law returns true; each argument reads behind the call as it read before'; 0 by the template 'total and deterministic' (their statements: YtbalmcpknmjgkaaGreatTotals.lean).
  GIVEN WITH THE SEED: the statements are not yours to turn. If you find one false, say at which input.
  Laid BY PROGRAM, IN A SANDBOX (cutbox-rows.mjs): the forced cells as the released guide's own fill.sh prints them over the translation d12737b635aa3e2b… (all of the seat's roots in one cut). By AI agents, Wed Nov 11 2026. No macro, syntax, notation, axiom, sorry.
-/
import Derived.Test.YtbalmcpknmjgkaaGreatChecked
import GoSem.Claim
import GoSem.ClaimJoined
import GoSem.ClaimMapViews
import Derived.JoinedTies
import Derived.KernelRfl
namespace Go.Proofs.YtbalmcpknmjgkaaGreat
/- THE CELL 'sum', in the pinned program and in every row, IS THE sha256 OF THE DUMP (.gsa) THAT YtbalmcpknmjgkaaGreatProg.lean LOADS. Nothing in Lean hashes anything: it is a label: what it is worth is what the hold of that sum in a sandbox is worth. -/
noncomputable def Tryz.pinned : Pinned := { name := "ytbalmcpknmjgkaagreat", sum := "d12737b635aa3e2baef325f76e7ce3c0ce1bc17ae7c4c8a5926fcfea3c9741e3", checked := Tryz.checked }
namespace Rows
def none {H : Type} : Left H := { results := [], args := [] }

/-- 'lockgatelaw20.HeadAnswers': WHATEVER THE INPUT: true; the input reads as it did. -/
def headAnswersSpec : ChangeSpec := { name := "headAnswers", fn := fun _ => fun
  | [d] => { results := [.lit (.bool true)], args := [d] }
  | _ => none }
def headAnswersRow : OpenClaim := { program := "ytbalmcpknmjgkaagreat", sum := "d12737b635aa3e2baef325f76e7ce3c0ce1bc17ae7c4c8a5926fcfea3c9741e3", func := "lockgate/lockgatelaw20.HeadAnswers", spec := "headAnswers", inPlace := ["slices.overlaps[lockgate/api.Seen]"], unfollowed := true, recurses := true, apart := false }
def HeadAnswersSaid : Prop := headAnswersRow.holds Tryz.pinned (OpenSpec.ofChange headAnswersSpec)

/-- ITS FALSE NEIGHBOUR: 'it returns false'. Refute it at one input. -/
def headAnswersWrong : ChangeSpec := { name := "headAnswers", fn := fun _ => fun
  | [d] => { results := [.lit (.bool false)], args := [d] }
  | _ => none }
def HeadAnswersWrongFalsely : Prop := headAnswersRow.holds Tryz.pinned (OpenSpec.ofChange headAnswersWrong)

/-- 'lockgatelaw20.HeadStore': WHATEVER THE INPUT: true; the input reads as it did. -/
def headStoreSpec : ChangeSpec := { name := "headStore", fn := fun _ => fun
  | [d] => { results := [.lit (.bool true)], args := [d] }
  | _ => none }
def headStoreRow : OpenClaim := { program := "ytbalmcpknmjgkaagreat", sum := "d12737b635aa3e2baef325f76e7ce3c0ce1bc17ae7c4c8a5926fcfea3c9741e3", func := "lockgate/lockgatelaw20.HeadStore", spec := "headStore", inPlace := ["slices.overlaps[lockgate/api.Seen]"], unfollowed := true, recurses := true, apart := false }
def HeadStoreSaid : Prop := headStoreRow.holds Tryz.pinned (OpenSpec.ofChange headStoreSpec)

/-- ITS FALSE NEIGHBOUR: 'it returns false'. Refute it at one input. -/
def headStoreWrong : ChangeSpec := { name := "headStore", fn := fun _ => fun
  | [d] => { results := [.lit (.bool false)], args := [d] }
  | _ => none }
def HeadStoreWrongFalsely : Prop := headStoreRow.holds Tryz.pinned (OpenSpec.ofChange headStoreWrong)

/-- 'lockgatelaw20.HeadKeeps': WHATEVER THE INPUT: true; the input reads as it did. -/
def headKeepsSpec : ChangeSpec := { name := "headKeeps", fn := fun _ => fun
  | [d1, d2] => { results := [.lit (.bool true)], args := [d1, d2] }
  | _ => none }
def headKeepsRow : OpenClaim := { program := "ytbalmcpknmjgkaagreat", sum := "d12737b635aa3e2baef325f76e7ce3c0ce1bc17ae7c4c8a5926fcfea3c9741e3", func := "lockgate/lockgatelaw20.HeadKeeps", spec := "headKeeps", inPlace := ["slices.overlaps[lockgate/api.Seen]"], unfollowed := true, recurses := true, apart := false }
def HeadKeepsSaid : Prop := headKeepsRow.holds Tryz.pinned (OpenSpec.ofChange headKeepsSpec)

/-- ITS FALSE NEIGHBOUR: 'it returns false'. Refute it at one input. -/
def headKeepsWrong : ChangeSpec := { name := "headKeeps", fn := fun _ => fun
  | [d1, d2] => { results := [.lit (.bool false)], args := [d1, d2] }
  | _ => none }
def HeadKeepsWrongFalsely : Prop := headKeepsRow.holds Tryz.pinned (OpenSpec.ofChange headKeepsWrong)

/-- 'lockgatelaw23.NodeParts': WHATEVER THE INPUT: true; the input reads as it did. -/
def nodePartsSpec : ChangeSpec := { name := "nodeParts", fn := fun _ => fun
  | [d] => { results := [.lit (.bool true)], args := [d] }
  | _ => none }
def nodePartsRow : OpenClaim := { program := "ytbalmcpknmjgkaagreat", sum := "d12737b635aa3e2baef325f76e7ce3c0ce1bc17ae7c4c8a5926fcfea3c9741e3", func := "lockgate/lockgatelaw23.NodeParts", spec := "nodeParts", inPlace := ["slices.overlaps[lockgate/api.Seen]"], unfollowed := true, recurses := true, apart := false }
def NodePartsSaid : Prop := nodePartsRow.holds Tryz.pinned (OpenSpec.ofChange nodePartsSpec)

/-- ITS FALSE NEIGHBOUR: 'it returns false'. Refute it at one input. -/
def nodePartsWrong : ChangeSpec := { name := "nodeParts", fn := fun _ => fun
  | [d] => { results := [.lit (.bool false)], args := [d] }
  | _ => none }
def NodePartsWrongFalsely : Prop := nodePartsRow.holds Tryz.pinned (OpenSpec.ofChange nodePartsWrong)

/-- 'lockgatelaw23.NodeTicks': WHATEVER THE INPUT: true; the input reads as it did. -/
def nodeTicksSpec : ChangeSpec := { name := "nodeTicks", fn := fun _ => fun
  | [d] => { results := [.lit (.bool true)], args := [d] }
  | _ => none }
def nodeTicksRow : OpenClaim := { program := "ytbalmcpknmjgkaagreat", sum := "d12737b635aa3e2baef325f76e7ce3c0ce1bc17ae7c4c8a5926fcfea3c9741e3", func := "lockgate/lockgatelaw23.NodeTicks", spec := "nodeTicks", inPlace := ["slices.overlaps[lockgate/api.Seen]"], unfollowed := true, recurses := true, apart := false }
def NodeTicksSaid : Prop := nodeTicksRow.holds Tryz.pinned (OpenSpec.ofChange nodeTicksSpec)

/-- ITS FALSE NEIGHBOUR: 'it returns false'. Refute it at one input. -/
def nodeTicksWrong : ChangeSpec := { name := "nodeTicks", fn := fun _ => fun
  | [d] => { results := [.lit (.bool false)], args := [d] }
  | _ => none }
def NodeTicksWrongFalsely : Prop := nodeTicksRow.holds Tryz.pinned (OpenSpec.ofChange nodeTicksWrong)

/- THE SECOND FORM. 'bulk': how many values and letters a reading holds, each counted each time it is reached (what is shared counts as often as it is met; a slice's spare places count too). A statement '..UptoSaid' is the law's where the arguments, and the package variables that the reading takes, are together of bulk at most 1048576: NARROWER than '..Said'. Prove '..Said' where nothing that the law and all that it calls make is longer than what came in: it says more and counts as full. Else prove '..UptoSaid'. A law counts once. -/
mutual
def uptoBulk {H : Type} : DataW H → Nat
  | .lit (.string bytes) => bytes.length + 1
  | .lit _ => 1
  | .nil => 1
  | .ptr d => uptoBulk d + 1
  | .slice elems spare => uptoBulkAll elems + uptoBulkAll spare + 1
  | .agg parts => uptoBulkAll parts + 1
  | .iface _ d => uptoBulk d + 1
  | .map entries => uptoBulkEntries entries + 1
  | .held _ => 1
def uptoBulkAll {H : Type} : List (DataW H) → Nat
  | [] => 0
  | d :: r => uptoBulk d + uptoBulkAll r
def uptoBulkEntries {H : Type} : List (Lit × DataW H) → Nat
  | [] => 0
  | x :: r => uptoBulkEntry x + uptoBulkEntries r
def uptoBulkEntry {H : Type} : Lit × DataW H → Nat
  | (.string bytes, d) => bytes.length + uptoBulk d + 1
  | (_, d) => uptoBulk d + 1
 end
def uptoSmall : (H : Type) → List (DataW H) → Bool := fun _ ds => decide (uptoBulkAll ds ≤ 1048576)
def OpenSpec.upto (s : _root_.Go.ChangeSpec) : _root_.Go.OpenSpec := { _root_.Go.OpenSpec.ofChange s with cond := some uptoSmall }

/-- 'lockgatelaw20.HeadAnswers', WHERE WHAT IT READS IS OF BULK AT MOST 1048576: true; the input reads as it did. -/
def headAnswersUptoRow : OpenClaim := { program := "ytbalmcpknmjgkaagreat", sum := "d12737b635aa3e2baef325f76e7ce3c0ce1bc17ae7c4c8a5926fcfea3c9741e3", func := "lockgate/lockgatelaw20.HeadAnswers", spec := "headAnswers", inPlace := ["slices.overlaps[lockgate/api.Seen]"], unfollowed := true, recurses := true, apart := false, narrowed := true }
def HeadAnswersUptoSaid : Prop := headAnswersUptoRow.holds Tryz.pinned (OpenSpec.upto headAnswersSpec)

/-- 'lockgatelaw20.HeadStore', WHERE WHAT IT READS IS OF BULK AT MOST 1048576: true; the input reads as it did. -/
def headStoreUptoRow : OpenClaim := { program := "ytbalmcpknmjgkaagreat", sum := "d12737b635aa3e2baef325f76e7ce3c0ce1bc17ae7c4c8a5926fcfea3c9741e3", func := "lockgate/lockgatelaw20.HeadStore", spec := "headStore", inPlace := ["slices.overlaps[lockgate/api.Seen]"], unfollowed := true, recurses := true, apart := false, narrowed := true }
def HeadStoreUptoSaid : Prop := headStoreUptoRow.holds Tryz.pinned (OpenSpec.upto headStoreSpec)

/-- 'lockgatelaw20.HeadKeeps', WHERE WHAT IT READS IS OF BULK AT MOST 1048576: true; the input reads as it did. -/
def headKeepsUptoRow : OpenClaim := { program := "ytbalmcpknmjgkaagreat", sum := "d12737b635aa3e2baef325f76e7ce3c0ce1bc17ae7c4c8a5926fcfea3c9741e3", func := "lockgate/lockgatelaw20.HeadKeeps", spec := "headKeeps", inPlace := ["slices.overlaps[lockgate/api.Seen]"], unfollowed := true, recurses := true, apart := false, narrowed := true }
def HeadKeepsUptoSaid : Prop := headKeepsUptoRow.holds Tryz.pinned (OpenSpec.upto headKeepsSpec)

/-- 'lockgatelaw23.NodeParts', WHERE WHAT IT READS IS OF BULK AT MOST 1048576: true; the input reads as it did. -/
def nodePartsUptoRow : OpenClaim := { program := "ytbalmcpknmjgkaagreat", sum := "d12737b635aa3e2baef325f76e7ce3c0ce1bc17ae7c4c8a5926fcfea3c9741e3", func := "lockgate/lockgatelaw23.NodeParts", spec := "nodeParts", inPlace := ["slices.overlaps[lockgate/api.Seen]"], unfollowed := true, recurses := true, apart := false, narrowed := true }
def NodePartsUptoSaid : Prop := nodePartsUptoRow.holds Tryz.pinned (OpenSpec.upto nodePartsSpec)

/-- 'lockgatelaw23.NodeTicks', WHERE WHAT IT READS IS OF BULK AT MOST 1048576: true; the input reads as it did. -/
def nodeTicksUptoRow : OpenClaim := { program := "ytbalmcpknmjgkaagreat", sum := "d12737b635aa3e2baef325f76e7ce3c0ce1bc17ae7c4c8a5926fcfea3c9741e3", func := "lockgate/lockgatelaw23.NodeTicks", spec := "nodeTicks", inPlace := ["slices.overlaps[lockgate/api.Seen]"], unfollowed := true, recurses := true, apart := false, narrowed := true }
def NodeTicksUptoSaid : Prop := nodeTicksUptoRow.holds Tryz.pinned (OpenSpec.upto nodeTicksSpec)

end Rows
end Go.Proofs.YtbalmcpknmjgkaaGreat
