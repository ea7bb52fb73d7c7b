/- Functions: what is left to be shown of each, over memory and without: printed by program, tied to the loaded functions by the kernel. Conditions: none. -/
import Derived.Test.YtmcloipjlihhlaaSEnv
import Derived.Test.YtmcloipjlihhlaaYMore
import Derived.Test.YtmcloipjlihhlaaTPlays
namespace Go.Proofs.Ytmcloipjlihhlaa.N
open Go.Proofs.Ytmcloipjlihhlaa
open Go.X
set_option maxRecDepth 100000
set_option linter.unusedVariables false
set_option linter.unusedSimpArgs false
set_option maxHeartbeats 2000000

/-- tracery/tracerylaw4.GraphMarks -/
def S25 (fromv : Int) (fromA : Option Addr) (fromL fromC : Nat) (opsA : Option Addr) (opsL opsC : Nat) (h : Heap) (R : Value → Heap → Prop) : Prop :=
  let hv : Heap := h.push (.cells #[.int .i64 fromv, .slice fromA fromL fromC] 26)
  callX Try.prog 74 #[] hv [h.size] fun v hv2 =>
  ∃ r : Bool, v = .bool r ∧
  cnd (!r)
    (R (.bool false) hv2)
    (callX Try.prog 75 #[.agg #[.int .i64 fromv, .slice fromA fromL fromC]] hv2 [h.size] fun v2 hv3 =>
    ∃ raP : Option Addr, ∃ rb : Int, v2 = .tuple #[.pointer raP, .int .i64 rb] ∧
    let K := fun (hv4 : Heap) =>
      (cnd (rb == (0 : Int))
        (R (.bool true) hv4)
        (R (.bool (Option.isNone raP)) hv4))
    cnd (rb != (0 : Int))
      (K hv3)
      (cnd (decide (fromv > (200 : Int)))
        (K hv3)
        (cnd (decide (((fromL : Nat) : Int) > (200 : Int)))
          (cnd (rb == (0 : Int))
            (R (.bool true) hv3)
            (R (.bool (Option.isNone raP)) hv3))
          (callX Try.prog 101 #[.pointer raP] hv3 [h.size] fun v3 hv5 =>
          ∃ r2 : Int, v3 = .int .i64 r2 ∧
          let hv6 : Heap := hv5.push (.cells #[.slice none 0 0, .slice none 0 0, .int .i64 0, .int .i64 0, .slice none 0 0, .int .i64 0] 155)
          let hv7 : Heap := hv6.push (.cells #[.pointer raP, .pointer (some (⟨hv5.size, 0, none⟩ : Addr)), .slice none 0 0] 149)
          let K3 := fun (hv12 : Heap) =>
            (callX Try.prog 104 #[.pointer raP, .int .i64 r2] hv12 [h.size] fun v5 hv13 =>
            ∃ r4 : Int, v5 = .int .i64 r4 ∧
            cnd (r4 != (0 : Int))
              (R (.bool false) hv13)
              (callX Try.prog 79 #[.pointer raP] hv13 [h.size] fun v6 hv14 =>
              ∃ ra : Int, ∃ (raA : Option Addr) (raL raC : Nat), ∃ (rbA : Option Addr) (rbL rbC : Nat), ∃ (rcA : Option Addr) (rcL rcC : Nat), v6 = .tuple #[.agg #[.int .i64 ra, .slice raA raL raC], .slice rbA rbL rbC, .slice rcA rcL rcC] ∧
              let hv15 : Heap := hv14.push (.cells #[.int .i64 0, .slice none 0 0] 26)
              let hv16 : Heap := hset (hset hv15 hv14.size 0 (.int .i64 ra)) hv14.size (0 + 1) (.slice raA raL raC)
              callX Try.prog 97 #[.pointer raP] hv16 [hv14.size, h.size] fun v7 hv17 =>
              ∃ ra2 : Int, ∃ rb2 : Int, v7 = .tuple #[.int .i64 ra2, .int .i64 rb2] ∧
              callX Try.prog 40 #[.agg #[.int .i64 ra, .slice raA raL raC], .agg #[.int .i64 fromv, .slice fromA fromL fromC]] hv17 [hv14.size, h.size] fun v8 hv18 =>
              ∃ r5 : Bool, v8 = .bool r5 ∧
              cnd r5
                (cnd (((rbL : Nat) : Int) == fromv)
                  (cnd (((rcL : Nat) : Int) == ((fromL : Nat) : Int))
                    (cnd (ra2 == (IntKind.i64.wrap (fromv + (1 : Int))))
                      (R (.bool (rb2 == (0 : Int))) hv18)
                      (R (.bool false) hv18))
                    (R (.bool false) hv18))
                  (R (.bool false) hv18))
                (R (.bool false) hv18)))
          ∃ (Iv : List Value → Heap → Prop) (m : List Value → Heap → Nat), Iv [.int .i64 0] hv7 ∧ -- loop 0: ['i']
          ∀ i : Int, ∀ hv8, Iv [.int .i64 i] hv8 →
          cnd (decide (i < ((opsL : Nat) : Int)))
            (cnd (decide (i < (60 : Int)))
              (let K2 := fun (hv11 : Heap) =>
                (Iv [.int .i64 (IntKind.i64.wrap (i + (1 : Int)))] hv11 ∧ m [.int .i64 (IntKind.i64.wrap (i + (1 : Int)))] hv11 < m [.int .i64 i] hv8)
              ∃ b o, opsA = some ⟨b, o, none⟩ ∧ 0 ≤ i ∧ i < (opsL : Nat) ∧ ∃ x : Int, hcell hv8 b (o + (Int.toNat i) * 4) = some (.int .i64 x) ∧ cnd (x != (11 : Int))
                (∃ b2 o2, opsA = some ⟨b2, o2, none⟩ ∧ 0 ≤ i ∧ i < (opsL : Nat) ∧ ∃ x2 : Int, hcell hv8 b2 (o2 + (Int.toNat i) * 4) = some (.int .i64 x2) ∧ ∃ Jv : List Value → Heap → Prop, -- join 71 []
                ( cnd (x2 != (12 : Int))
                   (∃ b3 o3, opsA = some ⟨b3, o3, none⟩ ∧ 0 ≤ i ∧ i < (opsL : Nat) ∧ ∃ x3 : Int, hcell hv8 b3 (o3 + (Int.toNat i) * 4) = some (.int .i64 x3) ∧ ∃ x4 : Int, hcell hv8 b3 ((o3 + (Int.toNat i) * 4) + 1) = some (.int .i64 x4) ∧ ∃ x5 : Int, hcell hv8 b3 (((o3 + (Int.toNat i) * 4) + 1) + 1) = some (.int .i64 x5) ∧ ∃ x6 : Int, hcell hv8 b3 ((((o3 + (Int.toNat i) * 4) + 1) + 1) + 1) = some (.int .i64 x6) ∧ callX Try.prog 108 #[.pointer (some (⟨hv6.size, 0, none⟩ : Addr)), .agg #[.int .i64 x3, .int .i64 x4, .int .i64 x5, .int .i64 x6]] hv8 [h.size] fun v4 hv9 =>
                   ∃ r3 : Bool, v4 = .bool r3 ∧
                   Jv [] hv9)
                   (Jv [] hv8)) ∧
                ∀ hv10, Jv [] hv10 →
                K2 hv10)
                (K2 hv8))
              (K3 hv8))
            (K3 hv8)))))
theorem calls25 {h : Heap} {R : Value → Heap → Prop} (fromv : Int) (fromA : Option Addr) (fromL fromC : Nat) (opsA : Option Addr) (opsL opsC : Nat) (H : S25 fromv fromA fromL fromC opsA opsL opsC h R) : CallsH Try.prog 25 #[.agg #[.int .i64 fromv, .slice fromA fromL fromC], .slice opsA opsL opsC] h R := by
  have e : S25 fromv fromA fromL fromC opsA opsL opsC h R = FX (envX [2, 10] 122) { loops := [(0, ⟨[1, 2, 5, 7, 8], [9], [2], []⟩)], joins := [(71, ⟨[1, 2, 5, 7, 8, 9], [], [2], []⟩)], blocks := [], draws := [] } Try.f25 (Try.f25.body.getD .skip) [.agg #[.int .i64 fromv, .slice fromA fromL fromC], .slice opsA opsL opsC] h R := by kernel_rfl
  exact calls_of_FX (envX_ok _ _) Try.func25 (by kernel_rfl) (by kernel_rfl) (by kernel_rfl) (e ▸ H)
end Go.Proofs.Ytmcloipjlihhlaa.N
