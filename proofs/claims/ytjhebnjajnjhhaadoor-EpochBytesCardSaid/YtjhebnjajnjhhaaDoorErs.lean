/- An error as the code may tell it: none, one of the errors, one of them with a place. No program in sight. -/
import Derived.Test.YtjhebnjajnjhhaaDoorVintMath
namespace Go.Proofs.YtjhebnjajnjhhaaDoor

/-- An error that the code may tell: none, one of the errors, one of them with a place. -/
inductive Er where
  | fine
  | bare (i : Nat)
  | placed (i : Nat) (pos : Int)
deriving DecidableEq

/-- What an error is told by. -/
def Er.code : Er → Int
  | .fine => 0
  | .bare i => (101 + i : Nat)
  | .placed i _ => (101 + i : Nat)
def Er.has : Er → Bool
  | .placed _ _ => true
  | _ => false
def Er.pos : Er → Int
  | .placed _ p => p
  | _ => 0
end Go.Proofs.YtjhebnjajnjhhaaDoor
