/-
  No cell of these rows narrows 'for every input' (looked for: loops, veiled, ifaces, maps, wideKeys, modest, calm, conditions, laid).
  DERIVED. THE GIVEN ROWS OF THIS SEAT. 3 by the template 'for every input the law returns true; each argument reads behind the call as it read before'; 0 by the template 'total and deterministic' (their statements: YtiehekhdjafbaaaGreatTotals.lean).
  GIVEN WITH THE SEED: the statements are not yours to turn. If you find one false, say at which input.
  Laid BY PROGRAM, IN A SANDBOX (cutbox-rows.mjs): the forced cells as the released guide's own fill.sh prints them over the translation beeb14225ebd2abf… (all of the seat's roots in one cut). By AI agents, Wed Nov 11 2026. No macro, syntax, notation, axiom, sorry.
-/
import Derived.Test.YtiehekhdjafbaaaGreatChecked
import GoSem.Claim
import GoSem.ClaimJoined
import GoSem.ClaimMapViews
import Derived.JoinedTies
import Derived.KernelRfl
namespace Go.Proofs.YtiehekhdjafbaaaGreat
/- THE CELL 'sum', in the pinned program and in every row, IS THE sha256 OF THE DUMP (.gsa) THAT YtiehekhdjafbaaaGreatProg.lean LOADS. Nothing in Lean hashes anything: it is a label: what it is worth is what the hold of that sum in a sandbox is worth. -/
noncomputable def Tryz.pinned : Pinned := { name := "ytiehekhdjafbaaagreat", sum := "beeb14225ebd2abfa10849379b5319d9a8ede6bc05ddfa7967fd324c31204eb4", checked := Tryz.checked }
namespace Rows
def none {H : Type} : Left H := { results := [], args := [] }

/-- 'lockgatelaw21.CoordOne': WHATEVER THE INPUT: true; the input reads as it did. -/
def coordOneSpec : ChangeSpec := { name := "coordOne", fn := fun _ => fun
  | [d1, d2] => { results := [.lit (.bool true)], args := [d1, d2] }
  | _ => none }
def coordOneRow : OpenClaim := { program := "ytiehekhdjafbaaagreat", sum := "beeb14225ebd2abfa10849379b5319d9a8ede6bc05ddfa7967fd324c31204eb4", func := "lockgate/lockgatelaw21.CoordOne", spec := "coordOne", inPlace := ["slices.overlaps[lockgate/api.Alive]", "slices.overlaps[lockgate/api.Seen]"], unfollowed := true, recurses := true, apart := false }
def CoordOneSaid : Prop := coordOneRow.holds Tryz.pinned (OpenSpec.ofChange coordOneSpec)

/-- ITS FALSE NEIGHBOUR: 'it returns false'. Refute it at one input. -/
def coordOneWrong : ChangeSpec := { name := "coordOne", fn := fun _ => fun
  | [d1, d2] => { results := [.lit (.bool false)], args := [d1, d2] }
  | _ => none }
def CoordOneWrongFalsely : Prop := coordOneRow.holds Tryz.pinned (OpenSpec.ofChange coordOneWrong)

/-- 'lockgatelaw21.CoordKeeps': WHATEVER THE INPUT: true; the input reads as it did. -/
def coordKeepsSpec : ChangeSpec := { name := "coordKeeps", fn := fun _ => fun
  | [d1, d2] => { results := [.lit (.bool true)], args := [d1, d2] }
  | _ => none }
def coordKeepsRow : OpenClaim := { program := "ytiehekhdjafbaaagreat", sum := "beeb14225ebd2abfa10849379b5319d9a8ede6bc05ddfa7967fd324c31204eb4", func := "lockgate/lockgatelaw21.CoordKeeps", spec := "coordKeeps", inPlace := ["slices.overlaps[lockgate/api.Alive]", "slices.overlaps[lockgate/api.Seen]"], unfollowed := true, recurses := true, apart := false }
def CoordKeepsSaid : Prop := coordKeepsRow.holds Tryz.pinned (OpenSpec.ofChange coordKeepsSpec)

/-- ITS FALSE NEIGHBOUR: 'it returns false'. Refute it at one input. -/
def coordKeepsWrong : ChangeSpec := { name := "coordKeeps", fn := fun _ => fun
  | [d1, d2] => { results := [.lit (.bool false)], args := [d1, d2] }
  | _ => none }
def CoordKeepsWrongFalsely : Prop := coordKeepsRow.holds Tryz.pinned (OpenSpec.ofChange coordKeepsWrong)

/-- 'lockgatelaw21.CoordSafe': WHATEVER THE INPUT: true; the input reads as it did. -/
def coordSafeSpec : ChangeSpec := { name := "coordSafe", fn := fun _ => fun
  | [d1, d2] => { results := [.lit (.bool true)], args := [d1, d2] }
  | _ => none }
def coordSafeRow : OpenClaim := { program := "ytiehekhdjafbaaagreat", sum := "beeb14225ebd2abfa10849379b5319d9a8ede6bc05ddfa7967fd324c31204eb4", func := "lockgate/lockgatelaw21.CoordSafe", spec := "coordSafe", inPlace := ["slices.overlaps[lockgate/api.Alive]", "slices.overlaps[lockgate/api.Seen]"], unfollowed := true, recurses := true, apart := false }
def CoordSafeSaid : Prop := coordSafeRow.holds Tryz.pinned (OpenSpec.ofChange coordSafeSpec)

/-- ITS FALSE NEIGHBOUR: 'it returns false'. Refute it at one input. -/
def coordSafeWrong : ChangeSpec := { name := "coordSafe", fn := fun _ => fun
  | [d1, d2] => { results := [.lit (.bool false)], args := [d1, d2] }
  | _ => none }
def CoordSafeWrongFalsely : Prop := coordSafeRow.holds Tryz.pinned (OpenSpec.ofChange coordSafeWrong)

/- THE SECOND FORM. 'bulk': how many values and letters a reading holds, each counted each time it is reached (what is shared counts as often as it is met; a slice's spare places count too). A statement '..UptoSaid' is the law's where the arguments, and the package variables that the reading takes, are together of bulk at most 1048576: NARROWER than '..Said'. Prove '..Said' where nothing that the law and all that it calls make is longer than what came in: it says more and counts as full. Else prove '..UptoSaid'. A law counts once. -/
mutual
def uptoBulk {H : Type} : DataW H → Nat
  | .lit (.string bytes) => bytes.length + 1
  | .lit _ => 1
  | .nil => 1
  | .ptr d => uptoBulk d + 1
  | .slice elems spare => uptoBulkAll elems + uptoBulkAll spare + 1
  | .agg parts => uptoBulkAll parts + 1
  | .iface _ d => uptoBulk d + 1
  | .map entries => uptoBulkEntries entries + 1
  | .held _ => 1
def uptoBulkAll {H : Type} : List (DataW H) → Nat
  | [] => 0
  | d :: r => uptoBulk d + uptoBulkAll r
def uptoBulkEntries {H : Type} : List (Lit × DataW H) → Nat
  | [] => 0
  | x :: r => uptoBulkEntry x + uptoBulkEntries r
def uptoBulkEntry {H : Type} : Lit × DataW H → Nat
  | (.string bytes, d) => bytes.length + uptoBulk d + 1
  | (_, d) => uptoBulk d + 1
 end
def uptoSmall : (H : Type) → List (DataW H) → Bool := fun _ ds => decide (uptoBulkAll ds ≤ 1048576)
def OpenSpec.upto (s : _root_.Go.ChangeSpec) : _root_.Go.OpenSpec := { _root_.Go.OpenSpec.ofChange s with cond := some uptoSmall }

/-- 'lockgatelaw21.CoordOne', WHERE WHAT IT READS IS OF BULK AT MOST 1048576: true; the input reads as it did. -/
def coordOneUptoRow : OpenClaim := { program := "ytiehekhdjafbaaagreat", sum := "beeb14225ebd2abfa10849379b5319d9a8ede6bc05ddfa7967fd324c31204eb4", func := "lockgate/lockgatelaw21.CoordOne", spec := "coordOne", inPlace := ["slices.overlaps[lockgate/api.Alive]", "slices.overlaps[lockgate/api.Seen]"], unfollowed := true, recurses := true, apart := false, narrowed := true }
def CoordOneUptoSaid : Prop := coordOneUptoRow.holds Tryz.pinned (OpenSpec.upto coordOneSpec)

/-- 'lockgatelaw21.CoordKeeps', WHERE WHAT IT READS IS OF BULK AT MOST 1048576: true; the input reads as it did. -/
def coordKeepsUptoRow : OpenClaim := { program := "ytiehekhdjafbaaagreat", sum := "beeb14225ebd2abfa10849379b5319d9a8ede6bc05ddfa7967fd324c31204eb4", func := "lockgate/lockgatelaw21.CoordKeeps", spec := "coordKeeps", inPlace := ["slices.overlaps[lockgate/api.Alive]", "slices.overlaps[lockgate/api.Seen]"], unfollowed := true, recurses := true, apart := false, narrowed := true }
def CoordKeepsUptoSaid : Prop := coordKeepsUptoRow.holds Tryz.pinned (OpenSpec.upto coordKeepsSpec)

/-- 'lockgatelaw21.CoordSafe', WHERE WHAT IT READS IS OF BULK AT MOST 1048576: true; the input reads as it did. -/
def coordSafeUptoRow : OpenClaim := { program := "ytiehekhdjafbaaagreat", sum := "beeb14225ebd2abfa10849379b5319d9a8ede6bc05ddfa7967fd324c31204eb4", func := "lockgate/lockgatelaw21.CoordSafe", spec := "coordSafe", inPlace := ["slices.overlaps[lockgate/api.Alive]", "slices.overlaps[lockgate/api.Seen]"], unfollowed := true, recurses := true, apart := false, narrowed := true }
def CoordSafeUptoSaid : Prop := coordSafeUptoRow.holds Tryz.pinned (OpenSpec.upto coordSafeSpec)

end Rows
end Go.Proofs.YtiehekhdjafbaaaGreat
