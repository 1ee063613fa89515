/-
  No cell of these rows narrows 'for every input' (looked for: loops, veiled, ifaces, maps, wideKeys, modest, calm, conditions, laid).
  DERIVED. THE GIVEN ROWS OF THIS SEAT. 3 by the template 'for every input the law returns true; each argument reads behind the call as it read before'; 0 by the template 'total and deterministic' (their statements: YtjhfgaadinklhaaGreatTotals.lean).
  GIVEN WITH THE SEED: the statements are not yours to turn. If you find one false, say at which input.
  Laid BY PROGRAM, IN A SANDBOX (cutbox-rows.mjs): the forced cells as the released guide's own fill.sh prints them over the translation 1e6ac1f82e53d3a7… (all of the seat's roots in one cut). By AI agents, Wed Nov 11 2026. No macro, syntax, notation, axiom, sorry.
-/
import Derived.Test.YtjhfgaadinklhaaGreatChecked
import GoSem.Claim
import GoSem.ClaimJoined
import GoSem.ClaimMapViews
import Derived.JoinedTies
import Derived.KernelRfl
namespace Go.Proofs.YtjhfgaadinklhaaGreat
/- THE CELL 'sum', in the pinned program and in every row, IS THE sha256 OF THE DUMP (.gsa) THAT YtjhfgaadinklhaaGreatProg.lean LOADS. Nothing in Lean hashes anything: it is a label: what it is worth is what the hold of that sum in a sandbox is worth. -/
noncomputable def Tryz.pinned : Pinned := { name := "ytjhfgaadinklhaagreat", sum := "1e6ac1f82e53d3a78d1e9ca02c43cbb897f29082f1ef6e658ad800ed396cfba6", checked := Tryz.checked }
namespace Rows
def none {H : Type} : Left H := { results := [], args := [] }

/-- 'lockgatelaw22.KeeperBooks': WHATEVER THE INPUT: true; the input reads as it did. -/
def keeperBooksSpec : ChangeSpec := { name := "keeperBooks", fn := fun _ => fun
  | [d] => { results := [.lit (.bool true)], args := [d] }
  | _ => none }
def keeperBooksRow : OpenClaim := { program := "ytjhfgaadinklhaagreat", sum := "1e6ac1f82e53d3a78d1e9ca02c43cbb897f29082f1ef6e658ad800ed396cfba6", func := "lockgate/lockgatelaw22.KeeperBooks", spec := "keeperBooks", inPlace := ["slices.overlaps[lockgate/api.Alive]"], unfollowed := true, recurses := true, apart := false }
def KeeperBooksSaid : Prop := keeperBooksRow.holds Tryz.pinned (OpenSpec.ofChange keeperBooksSpec)

/-- ITS FALSE NEIGHBOUR: 'it returns false'. Refute it at one input. -/
def keeperBooksWrong : ChangeSpec := { name := "keeperBooks", fn := fun _ => fun
  | [d] => { results := [.lit (.bool false)], args := [d] }
  | _ => none }
def KeeperBooksWrongFalsely : Prop := keeperBooksRow.holds Tryz.pinned (OpenSpec.ofChange keeperBooksWrong)

/-- 'lockgatelaw22.KeeperGets': WHATEVER THE INPUT: true; the input reads as it did. -/
def keeperGetsSpec : ChangeSpec := { name := "keeperGets", fn := fun _ => fun
  | [d1, d2] => { results := [.lit (.bool true)], args := [d1, d2] }
  | _ => none }
def keeperGetsRow : OpenClaim := { program := "ytjhfgaadinklhaagreat", sum := "1e6ac1f82e53d3a78d1e9ca02c43cbb897f29082f1ef6e658ad800ed396cfba6", func := "lockgate/lockgatelaw22.KeeperGets", spec := "keeperGets", inPlace := ["slices.overlaps[lockgate/api.Alive]"], unfollowed := true, recurses := true, apart := false }
def KeeperGetsSaid : Prop := keeperGetsRow.holds Tryz.pinned (OpenSpec.ofChange keeperGetsSpec)

/-- ITS FALSE NEIGHBOUR: 'it returns false'. Refute it at one input. -/
def keeperGetsWrong : ChangeSpec := { name := "keeperGets", fn := fun _ => fun
  | [d1, d2] => { results := [.lit (.bool false)], args := [d1, d2] }
  | _ => none }
def KeeperGetsWrongFalsely : Prop := keeperGetsRow.holds Tryz.pinned (OpenSpec.ofChange keeperGetsWrong)

/-- 'lockgatelaw22.KeeperMemory': WHATEVER THE INPUT: true; the input reads as it did. -/
def keeperMemorySpec : ChangeSpec := { name := "keeperMemory", fn := fun _ => fun
  | [d] => { results := [.lit (.bool true)], args := [d] }
  | _ => none }
def keeperMemoryRow : OpenClaim := { program := "ytjhfgaadinklhaagreat", sum := "1e6ac1f82e53d3a78d1e9ca02c43cbb897f29082f1ef6e658ad800ed396cfba6", func := "lockgate/lockgatelaw22.KeeperMemory", spec := "keeperMemory", inPlace := ["slices.overlaps[lockgate/api.Alive]"], unfollowed := true, recurses := true, apart := false }
def KeeperMemorySaid : Prop := keeperMemoryRow.holds Tryz.pinned (OpenSpec.ofChange keeperMemorySpec)

/-- ITS FALSE NEIGHBOUR: 'it returns false'. Refute it at one input. -/
def keeperMemoryWrong : ChangeSpec := { name := "keeperMemory", fn := fun _ => fun
  | [d] => { results := [.lit (.bool false)], args := [d] }
  | _ => none }
def KeeperMemoryWrongFalsely : Prop := keeperMemoryRow.holds Tryz.pinned (OpenSpec.ofChange keeperMemoryWrong)

/- THE SECOND FORM. 'bulk': how many values and letters a reading holds, each counted each time it is reached (what is shared counts as often as it is met; a slice's spare places count too). A statement '..UptoSaid' is the law's where the arguments, and the package variables that the reading takes, are together of bulk at most 1048576: NARROWER than '..Said'. Prove '..Said' where nothing that the law and all that it calls make is longer than what came in: it says more and counts as full. Else prove '..UptoSaid'. A law counts once. -/
mutual
def uptoBulk {H : Type} : DataW H → Nat
  | .lit (.string bytes) => bytes.length + 1
  | .lit _ => 1
  | .nil => 1
  | .ptr d => uptoBulk d + 1
  | .slice elems spare => uptoBulkAll elems + uptoBulkAll spare + 1
  | .agg parts => uptoBulkAll parts + 1
  | .iface _ d => uptoBulk d + 1
  | .map entries => uptoBulkEntries entries + 1
  | .held _ => 1
def uptoBulkAll {H : Type} : List (DataW H) → Nat
  | [] => 0
  | d :: r => uptoBulk d + uptoBulkAll r
def uptoBulkEntries {H : Type} : List (Lit × DataW H) → Nat
  | [] => 0
  | x :: r => uptoBulkEntry x + uptoBulkEntries r
def uptoBulkEntry {H : Type} : Lit × DataW H → Nat
  | (.string bytes, d) => bytes.length + uptoBulk d + 1
  | (_, d) => uptoBulk d + 1
 end
def uptoSmall : (H : Type) → List (DataW H) → Bool := fun _ ds => decide (uptoBulkAll ds ≤ 1048576)
def OpenSpec.upto (s : _root_.Go.ChangeSpec) : _root_.Go.OpenSpec := { _root_.Go.OpenSpec.ofChange s with cond := some uptoSmall }

/-- 'lockgatelaw22.KeeperBooks', WHERE WHAT IT READS IS OF BULK AT MOST 1048576: true; the input reads as it did. -/
def keeperBooksUptoRow : OpenClaim := { program := "ytjhfgaadinklhaagreat", sum := "1e6ac1f82e53d3a78d1e9ca02c43cbb897f29082f1ef6e658ad800ed396cfba6", func := "lockgate/lockgatelaw22.KeeperBooks", spec := "keeperBooks", inPlace := ["slices.overlaps[lockgate/api.Alive]"], unfollowed := true, recurses := true, apart := false, narrowed := true }
def KeeperBooksUptoSaid : Prop := keeperBooksUptoRow.holds Tryz.pinned (OpenSpec.upto keeperBooksSpec)

/-- 'lockgatelaw22.KeeperGets', WHERE WHAT IT READS IS OF BULK AT MOST 1048576: true; the input reads as it did. -/
def keeperGetsUptoRow : OpenClaim := { program := "ytjhfgaadinklhaagreat", sum := "1e6ac1f82e53d3a78d1e9ca02c43cbb897f29082f1ef6e658ad800ed396cfba6", func := "lockgate/lockgatelaw22.KeeperGets", spec := "keeperGets", inPlace := ["slices.overlaps[lockgate/api.Alive]"], unfollowed := true, recurses := true, apart := false, narrowed := true }
def KeeperGetsUptoSaid : Prop := keeperGetsUptoRow.holds Tryz.pinned (OpenSpec.upto keeperGetsSpec)

/-- 'lockgatelaw22.KeeperMemory', WHERE WHAT IT READS IS OF BULK AT MOST 1048576: true; the input reads as it did. -/
def keeperMemoryUptoRow : OpenClaim := { program := "ytjhfgaadinklhaagreat", sum := "1e6ac1f82e53d3a78d1e9ca02c43cbb897f29082f1ef6e658ad800ed396cfba6", func := "lockgate/lockgatelaw22.KeeperMemory", spec := "keeperMemory", inPlace := ["slices.overlaps[lockgate/api.Alive]"], unfollowed := true, recurses := true, apart := false, narrowed := true }
def KeeperMemoryUptoSaid : Prop := keeperMemoryUptoRow.holds Tryz.pinned (OpenSpec.upto keeperMemorySpec)

end Rows
end Go.Proofs.YtjhfgaadinklhaaGreat
