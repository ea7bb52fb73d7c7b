/- What is left to be shown of some functions: printed by program out of the loaded functions; tied to them by the kernel. Conditions: none. -/
import Derived.Test.YtmcloipjlihhlaaSEnv
namespace Go.Proofs.Ytmcloipjlihhlaa
open Go.X
set_option maxRecDepth 100000
set_option linter.unusedVariables false

/-- tracery/maker.made -/
def S112 (ev : Int) (n : Int) (makeF : Nat) (makeY : List Value) (h : Heap) (R : Value → Heap → Prop) : Prop :=
  let hv : Heap := h.push (.cells #[.int .i64 0, .slice none 0 0] 26)
  cnd (ev != (0 : Int))
    (let hv2 : Heap := hset (hset hv h.size 0 (.int .i64 0)) h.size (0 + 1) (.slice none 0 0)
    R (.tuple #[.agg #[.int .i64 0, .slice none 0 0], .int .i64 ev]) hv2)
    (let hv3 : Heap := hv.push (.cells #[.int .i64 n, .slice none 0 0] 229)
    callX Try.prog makeF (List.toArray (#[.pointer (some (⟨hv.size, 0, none⟩ : Addr))].toList ++ makeY)) hv3 [h.size] fun v hv4 =>
    v = .tuple #[] ∧
    ∃ x : Int, hcell hv4 hv.size 0 = some (.int .i64 x) ∧ ∃ (xA : Option Addr) (xL xC : Nat), hcell hv4 hv.size (0 + 1) = some (.slice xA xL xC) ∧ let hv5 : Heap := hset (hset hv4 h.size 0 (.int .i64 x)) h.size (0 + 1) (.slice xA xL xC)
    R (.tuple #[.agg #[.int .i64 x, .slice xA xL xC], .int .i64 0]) hv5)
theorem calls112_123 {h : Heap} {R : Value → Heap → Prop} (ev : Int) (n : Int) (c0P : Option Addr) (H : S112 ev n 123 [.pointer c0P] h R) : CallsH Try.prog 112 #[.int .i64 ev, .int .i64 n, .func (.func 123) #[] #[.pointer c0P]] h R := by
  have e : S112 ev n 123 [.pointer c0P] h R = FX (envX [6] 24) { loops := [], joins := [], blocks := [], draws := [] } Try.f112 (Try.f112.body.getD .skip) [.int .i64 ev, .int .i64 n, .func (.func 123) #[] #[.pointer c0P]] h R := by kernel_rfl
  exact calls_of_FX (envX_ok _ _) Try.func112 (by kernel_rfl) (by kernel_rfl) (by kernel_rfl) (e ▸ H)
theorem calls112_125 {h : Heap} {R : Value → Heap → Prop} (ev : Int) (n : Int) (c0P : Option Addr) (c1P : Option Addr) (H : S112 ev n 125 [.pointer c0P, .pointer c1P] h R) : CallsH Try.prog 112 #[.int .i64 ev, .int .i64 n, .func (.func 125) #[] #[.pointer c0P, .pointer c1P]] h R := by
  have e : S112 ev n 125 [.pointer c0P, .pointer c1P] h R = FX (envX [6] 24) { loops := [], joins := [], blocks := [], draws := [] } Try.f112 (Try.f112.body.getD .skip) [.int .i64 ev, .int .i64 n, .func (.func 125) #[] #[.pointer c0P, .pointer c1P]] h R := by kernel_rfl
  exact calls_of_FX (envX_ok _ _) Try.func112 (by kernel_rfl) (by kernel_rfl) (by kernel_rfl) (e ▸ H)
end Go.Proofs.Ytmcloipjlihhlaa
