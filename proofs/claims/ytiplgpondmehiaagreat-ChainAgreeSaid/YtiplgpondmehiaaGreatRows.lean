/-
  No cell of these rows narrows 'for every input' (looked for: loops, veiled, ifaces, maps, wideKeys, modest, calm, conditions, laid).
  DERIVED. THE GIVEN ROWS OF THIS SEAT. 3 by the template 'for every input the law returns true; each argument reads behind the call as it read before'; 0 by the template 'total and deterministic' (their statements: YtiplgpondmehiaaGreatTotals.lean).
  GIVEN WITH THE SEED: the statements are not yours to turn. If you find one false, say at which input.
  Laid BY PROGRAM, IN A SANDBOX (cutbox-rows.mjs): the forced cells as the released guide's own fill.sh prints them over the translation 0e2dc695a9fd1673… (all of the seat's roots in one cut). By AI agents, Wed Nov 11 2026. No macro, syntax, notation, axiom, sorry.
-/
import Derived.Test.YtiplgpondmehiaaGreatChecked
import GoSem.Claim
import GoSem.ClaimJoined
import GoSem.ClaimMapViews
import Derived.JoinedTies
import Derived.KernelRfl
namespace Go.Proofs.YtiplgpondmehiaaGreat
/- THE CELL 'sum', in the pinned program and in every row, IS THE sha256 OF THE DUMP (.gsa) THAT YtiplgpondmehiaaGreatProg.lean LOADS. Nothing in Lean hashes anything: it is a label: what it is worth is what the hold of that sum in a sandbox is worth. -/
noncomputable def Tryz.pinned : Pinned := { name := "ytiplgpondmehiaagreat", sum := "0e2dc695a9fd1673d2023afd744e2c3d5c38ebd606de4cb1aafa5a32c202e77f", checked := Tryz.checked }
namespace Rows
def none {H : Type} : Left H := { results := [], args := [] }

/-- 'lockgatelaw18.ChainPlays': WHATEVER THE INPUT: true; the input reads as it did. -/
def chainPlaysSpec : ChangeSpec := { name := "chainPlays", fn := fun _ => fun
  | [d1, d2] => { results := [.lit (.bool true)], args := [d1, d2] }
  | _ => none }
def chainPlaysRow : OpenClaim := { program := "ytiplgpondmehiaagreat", sum := "0e2dc695a9fd1673d2023afd744e2c3d5c38ebd606de4cb1aafa5a32c202e77f", func := "lockgate/lockgatelaw18.ChainPlays", spec := "chainPlays", inPlace := ["slices.overlaps[lockgate/api.Seen]"], unfollowed := true, recurses := true, apart := false }
def ChainPlaysSaid : Prop := chainPlaysRow.holds Tryz.pinned (OpenSpec.ofChange chainPlaysSpec)

/-- ITS FALSE NEIGHBOUR: 'it returns false'. Refute it at one input. -/
def chainPlaysWrong : ChangeSpec := { name := "chainPlays", fn := fun _ => fun
  | [d1, d2] => { results := [.lit (.bool false)], args := [d1, d2] }
  | _ => none }
def ChainPlaysWrongFalsely : Prop := chainPlaysRow.holds Tryz.pinned (OpenSpec.ofChange chainPlaysWrong)

/-- 'lockgatelaw18.ChainCommits': WHATEVER THE INPUT: true; the input reads as it did. -/
def chainCommitsSpec : ChangeSpec := { name := "chainCommits", fn := fun _ => fun
  | [d1, d2] => { results := [.lit (.bool true)], args := [d1, d2] }
  | _ => none }
def chainCommitsRow : OpenClaim := { program := "ytiplgpondmehiaagreat", sum := "0e2dc695a9fd1673d2023afd744e2c3d5c38ebd606de4cb1aafa5a32c202e77f", func := "lockgate/lockgatelaw18.ChainCommits", spec := "chainCommits", inPlace := ["slices.overlaps[lockgate/api.Seen]"], unfollowed := true, recurses := true, apart := false }
def ChainCommitsSaid : Prop := chainCommitsRow.holds Tryz.pinned (OpenSpec.ofChange chainCommitsSpec)

/-- ITS FALSE NEIGHBOUR: 'it returns false'. Refute it at one input. -/
def chainCommitsWrong : ChangeSpec := { name := "chainCommits", fn := fun _ => fun
  | [d1, d2] => { results := [.lit (.bool false)], args := [d1, d2] }
  | _ => none }
def ChainCommitsWrongFalsely : Prop := chainCommitsRow.holds Tryz.pinned (OpenSpec.ofChange chainCommitsWrong)

/-- 'lockgatelaw18.ChainAgree': WHATEVER THE INPUT: true; the input reads as it did. -/
def chainAgreeSpec : ChangeSpec := { name := "chainAgree", fn := fun _ => fun
  | [d1, d2] => { results := [.lit (.bool true)], args := [d1, d2] }
  | _ => none }
def chainAgreeRow : OpenClaim := { program := "ytiplgpondmehiaagreat", sum := "0e2dc695a9fd1673d2023afd744e2c3d5c38ebd606de4cb1aafa5a32c202e77f", func := "lockgate/lockgatelaw18.ChainAgree", spec := "chainAgree", inPlace := ["slices.overlaps[lockgate/api.Seen]"], unfollowed := true, recurses := true, apart := false }
def ChainAgreeSaid : Prop := chainAgreeRow.holds Tryz.pinned (OpenSpec.ofChange chainAgreeSpec)

/-- ITS FALSE NEIGHBOUR: 'it returns false'. Refute it at one input. -/
def chainAgreeWrong : ChangeSpec := { name := "chainAgree", fn := fun _ => fun
  | [d1, d2] => { results := [.lit (.bool false)], args := [d1, d2] }
  | _ => none }
def ChainAgreeWrongFalsely : Prop := chainAgreeRow.holds Tryz.pinned (OpenSpec.ofChange chainAgreeWrong)

/- THE SECOND FORM. 'bulk': how many values and letters a reading holds, each counted each time it is reached (what is shared counts as often as it is met; a slice's spare places count too). A statement '..UptoSaid' is the law's where the arguments, and the package variables that the reading takes, are together of bulk at most 1048576: NARROWER than '..Said'. Prove '..Said' where nothing that the law and all that it calls make is longer than what came in: it says more and counts as full. Else prove '..UptoSaid'. A law counts once. -/
mutual
def uptoBulk {H : Type} : DataW H → Nat
  | .lit (.string bytes) => bytes.length + 1
  | .lit _ => 1
  | .nil => 1
  | .ptr d => uptoBulk d + 1
  | .slice elems spare => uptoBulkAll elems + uptoBulkAll spare + 1
  | .agg parts => uptoBulkAll parts + 1
  | .iface _ d => uptoBulk d + 1
  | .map entries => uptoBulkEntries entries + 1
  | .held _ => 1
def uptoBulkAll {H : Type} : List (DataW H) → Nat
  | [] => 0
  | d :: r => uptoBulk d + uptoBulkAll r
def uptoBulkEntries {H : Type} : List (Lit × DataW H) → Nat
  | [] => 0
  | x :: r => uptoBulkEntry x + uptoBulkEntries r
def uptoBulkEntry {H : Type} : Lit × DataW H → Nat
  | (.string bytes, d) => bytes.length + uptoBulk d + 1
  | (_, d) => uptoBulk d + 1
 end
def uptoSmall : (H : Type) → List (DataW H) → Bool := fun _ ds => decide (uptoBulkAll ds ≤ 1048576)
def OpenSpec.upto (s : _root_.Go.ChangeSpec) : _root_.Go.OpenSpec := { _root_.Go.OpenSpec.ofChange s with cond := some uptoSmall }

/-- 'lockgatelaw18.ChainPlays', WHERE WHAT IT READS IS OF BULK AT MOST 1048576: true; the input reads as it did. -/
def chainPlaysUptoRow : OpenClaim := { program := "ytiplgpondmehiaagreat", sum := "0e2dc695a9fd1673d2023afd744e2c3d5c38ebd606de4cb1aafa5a32c202e77f", func := "lockgate/lockgatelaw18.ChainPlays", spec := "chainPlays", inPlace := ["slices.overlaps[lockgate/api.Seen]"], unfollowed := true, recurses := true, apart := false, narrowed := true }
def ChainPlaysUptoSaid : Prop := chainPlaysUptoRow.holds Tryz.pinned (OpenSpec.upto chainPlaysSpec)

/-- 'lockgatelaw18.ChainCommits', WHERE WHAT IT READS IS OF BULK AT MOST 1048576: true; the input reads as it did. -/
def chainCommitsUptoRow : OpenClaim := { program := "ytiplgpondmehiaagreat", sum := "0e2dc695a9fd1673d2023afd744e2c3d5c38ebd606de4cb1aafa5a32c202e77f", func := "lockgate/lockgatelaw18.ChainCommits", spec := "chainCommits", inPlace := ["slices.overlaps[lockgate/api.Seen]"], unfollowed := true, recurses := true, apart := false, narrowed := true }
def ChainCommitsUptoSaid : Prop := chainCommitsUptoRow.holds Tryz.pinned (OpenSpec.upto chainCommitsSpec)

/-- 'lockgatelaw18.ChainAgree', WHERE WHAT IT READS IS OF BULK AT MOST 1048576: true; the input reads as it did. -/
def chainAgreeUptoRow : OpenClaim := { program := "ytiplgpondmehiaagreat", sum := "0e2dc695a9fd1673d2023afd744e2c3d5c38ebd606de4cb1aafa5a32c202e77f", func := "lockgate/lockgatelaw18.ChainAgree", spec := "chainAgree", inPlace := ["slices.overlaps[lockgate/api.Seen]"], unfollowed := true, recurses := true, apart := false, narrowed := true }
def ChainAgreeUptoSaid : Prop := chainAgreeUptoRow.holds Tryz.pinned (OpenSpec.upto chainAgreeSpec)

end Rows
end Go.Proofs.YtiplgpondmehiaaGreat
