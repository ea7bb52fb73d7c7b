/- Functions: what is left to be shown of each, over memory and without: printed by program, tied to the loaded functions by the kernel. Conditions: none. -/
import Derived.Test.YtmcloipjlihhlaaSEnv
import Derived.Test.YtmcloipjlihhlaaYMore
import Derived.Test.YtmcloipjlihhlaaTNet
import Derived.Test.YtmcloipjlihhlaaYKeep
namespace Go.Proofs.Ytmcloipjlihhlaa.N
open Go.Proofs.Ytmcloipjlihhlaa
open Go.X
set_option maxRecDepth 100000
set_option linter.unusedVariables false
set_option linter.unusedSimpArgs false
set_option maxHeartbeats 2000000

/-- tracery/tracerylaw3.Twin -/
def Ok63 (g : Int) (edgesV : List (Int × Int)) (R : Int → List (Int × Int) → Prop) : Prop :=
  ∀ (h : Heap) (gA : Option Addr) (gL gC : Nat), Hp h [Ck.vw eP gA gL gC edgesV] → CallsH Try.prog 63 #[.agg #[.int .i64 g, .slice gA gL gC]] h fun v h' => ∃ (nV : Int) (edgesVA : Option Addr) (edgesVL edgesVC : Nat) (edgesV2 : List (Int × Int)), Sy h [] h' [Ck.slm eP 35 edgesVA edgesVL edgesVC edgesV2 [(-7, 7)]] ∧ v = .agg #[.int .i64 nV, .slice edgesVA edgesVL edgesVC] ∧ R nV edgesV2
theorem Ok63.mono {g edgesV} {R R' : Int → List (Int × Int) → Prop} (H : Ok63 g edgesV R) (kz : ∀ nV edgesV2, R nV edgesV2 → R' nV edgesV2) : Ok63 g edgesV R' :=
  fun h gA gL gC hp => (H h gA gL gC hp).mono fun _ _ ⟨nV, edgesVA, edgesVL, edgesVC, edgesV2, P, e, q⟩ => ⟨nV, edgesVA, edgesVL, edgesVC, edgesV2, P, e, kz _ _ q⟩
/-- tracery/tracerylaw3.Kept -/
def Ok73 (t : Int) (edgesV : List (Int × Int)) (g : Int) (edgesV2 : List (Int × Int)) (R : Bool → Prop) : Prop :=
  ∀ (h : Heap) (tA : Option Addr) (tL tC : Nat) (gA : Option Addr) (gL gC : Nat), Hp h [Ck.vwm eP tA tL tC edgesV [(-7, 7)], Ck.vw eP gA gL gC edgesV2] → CallsH Try.prog 73 #[.agg #[.int .i64 t, .slice tA tL tC], .agg #[.int .i64 g, .slice gA gL gC]] h fun v h' => ∃ (rV : Bool), Sy h [] h' [] ∧ v = .bool rV ∧ R rV
theorem Ok73.mono {t edgesV g edgesV2} {R R' : Bool → Prop} (H : Ok73 t edgesV g edgesV2 R) (kz : ∀ rV, R rV → R' rV) : Ok73 t edgesV g edgesV2 R' :=
  fun h tA tL tC gA gL gC hp => (H h tA tL tC gA gL gC hp).mono fun _ _ ⟨rV, P, e, q⟩ => ⟨rV, P, e, kz _ q⟩
end Go.Proofs.Ytmcloipjlihhlaa.N
