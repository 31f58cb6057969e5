/- the walks with arguments as they come in -/
import Derived.Test.YtgoobadkbndfgaaDoorLift
import Derived.Test.YtgoobadkbndfgaaDoorLawCuts
namespace Go.Proofs.YtgoobadkbndfgaaDoor
open Go.RowKit
set_option linter.unusedVariables false
theorem cuts_row (A : Option Addr) (n cap : Nat) (b : List (BitVec 8)) (A1 : Option Addr) (n1 cap1 : Nat) (zs : List Int) (A2 : Option Addr) (n2 cap2 : Nat) (ys : List Int) (w : World) (h0 : In8 w A n cap b) (h1 : InI w A1 n1 cap1 zs) (h2 : InI w A2 n2 cap2 ys) (_ : True) :
    Calls Tryd.prog 7 #[.slice A n cap, .slice A1 n1 cap1, .slice A2 n2 cap2] w fun e w' => e = .returned (.bool true) ∧ Below w.heap.size w w' :=
  law_cuts A n cap b A1 n1 cap1 zs A2 n2 cap2 ys w h0.1 h0.2.1 h0.2.2.1 h0.2.2.2.1 h0.2.2.2.2 h1.1 h1.2.1 h1.2.2.1 h1.2.2.2.2.1 h2.1 h2.2.1 h2.2.2.1 h2.2.2.2.2.1
end Go.Proofs.YtgoobadkbndfgaaDoor
