/- Package maker: nets made by function values. Conditions: none. -/
import Derived.Test.YtmcloipjlihhlaaSMade
import Derived.Test.YtmcloipjlihhlaaTMade
import Derived.Test.YtmcloipjlihhlaaNNet
namespace Go.Proofs.Ytmcloipjlihhlaa.N
open Go.X Go.Proofs.Ytmcloipjlihhlaa
set_option maxRecDepth 100000

/-- What a function value does with the net that is being made. -/
def Mk (f : FuncId) (caps : List Ck) (ps : List Value) (n : Int) (R : Int → List (Int × Int) → Int → Prop) : Prop :=
  ∀ (h1 : Heap) (b : Nat), Hp h1 (Ck.ob b 229 [.int .i64 n, .slice none 0 0] :: Ck.sl eP 35 none 0 0 [] :: caps) → CallsH Try.prog f (List.toArray ([.pointer (some ⟨b, 0, none⟩)] ++ ps)) h1 fun v h' =>
      ∃ (A : Option Addr) (L C : Nat) (es : List (Int × Int)) (k : Int), Sy h1 (owns [Ck.ob b 229 [.int .i64 n, .slice none 0 0], Ck.sl eP 35 none 0 0 []]) h' [Ck.ob b 229 [.int .i64 k, .slice A L C], Ck.sl eP 35 A L C es] ∧ v = .tuple #[] ∧ R k es 0
section
variable {ev n c d e : Int} {R : Int → List (Int × Int) → Int → Prop}
end

def rangeE (f : Nat → Int × Int) (n : Nat) : List (Int × Int) := (List.range n).map f
theorem rangeE_succ (f : Nat → Int × Int) (n : Nat) : rangeE f (n + 1) = rangeE f n ++ [f n] := by simp [rangeE, List.range_succ]
theorem rangeE_len (f : Nat → Int × Int) (n : Nat) : (rangeE f n).length = n := by simp [rangeE]
def rowsE (f : Nat → List (Int × Int)) : Nat → List (Int × Int)
  | 0 => []
  | k + 1 => rowsE f k ++ f k
def compE (n : Nat) : List (Int × Int) := rowsE (fun i => rangeE (fun k => ((i : Int), (i : Int) + 1 + k)) (n - 1 - i)) n
def twoE (a b : Nat) : List (Int × Int) := rowsE (fun i => rangeE (fun k => ((i : Int), (a : Int) + k)) b) a
theorem rowsE_len {f : Nat → List (Int × Int)} {c : Nat} (h : ∀ i, (f i).length ≤ c) : ∀ n, (rowsE f n).length ≤ n * c
  | 0 => by simp [rowsE]
  | n + 1 => by
    have := rowsE_len h n
    have := h n
    rw [rowsE, List.length_append, Nat.add_mul, Nat.one_mul]; omega
end Go.Proofs.Ytmcloipjlihhlaa.N
