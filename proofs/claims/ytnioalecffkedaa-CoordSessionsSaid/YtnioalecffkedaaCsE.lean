/- The environment of the abstract machine over the seat of CoordSessions: live slots and the modes of calls, by program. -/
import Derived.Test.YtnioalecffkedaaProg
import Derived.KernelRfl
import Derived.Test.YtnioalecffkedaaAm30
open Go Go.AM
namespace Go.Proofs.CsE
def liveTab : List (Nat × Nat × List Nat) := [
(3, 0, [0, 3, 4, 5, 6]),
(3, 2, [0, 3, 4, 5, 6, 7, 8, 9, 11, 14]),
(3, 4, [0, 3, 4, 5, 6, 7, 8, 9, 11, 14, 15]),
(9, 0, [4, 6, 19, 20]),
(9, 2, [4, 6, 42, 43]),
(10, 0, [0, 1, 5]),
(11, 0, [1, 2, 10, 11]),
(12, 0, [1, 2, 18, 19]),
(15, 1, [0, 1, 4, 5, 57, 58, 59]),
(20, 0, [0, 7, 8, 9]),
(22, 0, [0, 3, 4, 13, 14, 15]),
(23, 0, [0, 4, 67, 68, 69]),
(26, 0, [0, 3, 4, 5, 6, 29, 30, 31]),
(27, 0, [3, 5, 9, 10, 11]),
(33, 0, [3, 4, 9, 10, 11]),
(37, 0, [0, 1, 7, 8]),
(41, 0, [0, 1, 2, 8, 9, 10]),
(46, 0, [1, 5, 8, 9, 10]),
(51, 0, [0, 1, 12, 13]),
(54, 0, [2, 5, 6, 65, 66, 67]),
(55, 0, [1, 2, 4, 6, 7, 8, 14, 15, 16]),
(56, 0, [1, 3, 9, 16, 17, 18]),
(58, 0, [0, 3, 10, 11, 12]),
(61, 0, [0, 7, 8]),
(65, 0, [3, 7, 8, 9]),
(66, 0, [0, 1, 7, 8]),
(70, 0, [0, 1, 5, 9, 10]),
(72, 0, [0, 1, 5, 6]),
(78, 0, [0, 2, 3]),
(79, 0, [0, 1, 7, 8])]
def modes1 : List Nat := [11, 12, 13, 16, 17, 18, 19, 20, 35, 36, 60, 61, 62, 74]
def modes2 : List Nat := [14, 15, 21, 22, 23, 24, 25, 26, 28, 29, 30, 31, 32, 34, 37, 38, 39, 40, 41, 43, 44, 45, 47, 48, 50, 51, 52, 53, 54, 58, 63, 64, 66, 67, 68, 71, 72, 73, 75, 76, 77, 78, 79, 88, 89, 90, 91, 92]
def modes4 : List Nat := []
def modes3 : List Nat := []
noncomputable def envO (o : Nat → List AV → Option Answer) : Env where
  tt := tiOf Try.prog
  code := codeOf Try.prog
  mode f := bif nmem f modes1 then 1 else bif nmem f modes2 then 2 else bif nmem f modes4 then 4 else bif nmem f modes3 then 3 else 0
  live f b := liveOf f b liveTab
  orc := o
end Go.Proofs.CsE
