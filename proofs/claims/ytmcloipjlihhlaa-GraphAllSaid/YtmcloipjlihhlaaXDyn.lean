/- A call of a function value that is known when the program runs alone. Conditions: none. -/
import Derived.Test.YtmcloipjlihhlaaXFun
namespace Go.X
def callD (P : Program) (F : List Nat) (f : Fn) (X Y : Array Value) (vs : List Value) (h : Heap) (H : List Nat) (K : Value → Heap → Prop) : Prop :=
  match f with
  | .func g => (match mem F g with
    | true => callX P g (X.toList ++ (vs ++ Y.toList)).toArray h H K
    | false => callE P g (X.toList ++ (vs ++ Y.toList)).toArray fun v => K v h)
  | _ => False
end Go.X
