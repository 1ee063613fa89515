/- The contracts that the walk of CoordSessions leans on, as data. -/
import Derived.Test.YtnioalecffkedaaCs2
open Go Go.AM
namespace Go.Proofs.CsE
set_option maxRecDepth 100000
set_option maxHeartbeats 0
open Cs
def z0 : O3 := ⟨0, 0, 0⟩
abbrev HX := Int × List O3 × Int × Int
def encH (x : HX) : List AV := [.agg (burC x.1 (encL 31 encO z0 x.2.1)), conf1, .agg (msgC x.2.2.1 x.2.2.2)]
def decH (a : List AV) : HX := (getI (argC a 0) 0, getL decO (argC a 0) 5, getI (argC a 2) 1, getI (argC a 2) 9)
def preH (x : HX) : Prop := 0 ≤ x.1 ∧ x.1 ≤ 3 ∧ x.2.1.length ≤ 3
def outH (x : HX) : AV := .tup [.agg (burC (Cs.step x.1 x.2.1 x.2.2.1 x.2.2.2).1 (encL 31 encO z0 (Cs.step x.1 x.2.1 x.2.2.1 x.2.2.2).2.1)), .trl 31 [rep x.2.2.1 x.2.2.2 (Cs.step x.1 x.2.1 x.2.2.1 x.2.2.2).2.2]]

noncomputable def kns : List Known := [.one 4 [] (.bool true), .one 5 [.int .i64 0] conf1, .one 7 [conf1] book0, .one 6 [book0] (.agg (burC 0 (encL 31 encO z0 []))), .spec 8 decH preH encH outH]
noncomputable def envL : Env := envO (orcOf kns)
end Go.Proofs.CsE
