/- Functions: what is left to be shown of each, over memory and without: printed by program, tied to the loaded functions by the kernel. Conditions: none. -/
import Derived.Test.YtmcloipjlihhlaaSEnv
import Derived.Test.YtmcloipjlihhlaaYMore
import Derived.Test.YtmcloipjlihhlaaTKuraA
namespace Go.Proofs.Ytmcloipjlihhlaa.N
open Go.Proofs.Ytmcloipjlihhlaa
open Go.X
set_option maxRecDepth 100000
set_option linter.unusedVariables false
set_option linter.unusedSimpArgs false
set_option maxHeartbeats 2000000

/-- tracery/tracerylaw12.KuraAll -/
def S12 (g : Int) (gA : Option Addr) (gL gC : Nat) (edgesA : Option Addr) (edgesL edgesC : Nat) (h : Heap) (R : Value → Heap → Prop) : Prop :=
  let hv : Heap := h.push (.cells #[.int .i64 g, .slice gA gL gC] 26)
  callX Try.prog 58 #[] hv [h.size] fun v hv2 =>
  ∃ r : Bool, v = .bool r ∧
  cnd (!r)
    (R (.bool false) hv2)
    (callX Try.prog 59 #[.agg #[.int .i64 g, .slice gA gL gC]] hv2 [h.size] fun v2 hv3 =>
    ∃ r2 : Bool, v2 = .bool r2 ∧
    cnd (!r2)
      (R (.bool true) hv3)
      (cnd (decide (((edgesL : Nat) : Int) > (400 : Int)))
        (R (.bool true) hv3)
        (callX Try.prog 60 #[.agg #[.int .i64 g, .slice gA gL gC], .slice edgesA edgesL edgesC] hv3 [h.size] fun v3 hv4 =>
        ∃ r3 : Int, v3 = .int .i64 r3 ∧
        let hv5 : Heap := hv4.push (.cells #[.int .i64 0, .slice none 0 0] 26)
        ∃ Jv : List Value → Heap → Prop, -- join 37 ['kind', 'nodes', 'paths']
        ( cnd (r3 == (0 : Int))
           (callX Try.prog 61 #[.agg #[.int .i64 g, .slice gA gL gC], .slice edgesA edgesL edgesC] hv5 [hv4.size, h.size] fun v4 hv6 =>
           ∃ ra : Int, ∃ (rbA : Option Addr) (rbL rbC : Nat), ∃ (rcA : Option Addr) (rcL rcC : Nat), v4 = .tuple #[.int .i64 ra, .slice rbA rbL rbC, .slice rcA rcL rcC] ∧
           callX Try.prog 62 #[.agg #[.int .i64 g, .slice gA gL gC], .slice edgesA edgesL edgesC] hv6 [hv4.size, h.size] fun v5 hv7 =>
           ∃ ra2 : Int, ∃ (raA : Option Addr) (raL raC : Nat), ∃ rb : Int, v5 = .tuple #[.agg #[.int .i64 ra2, .slice raA raL raC], .int .i64 rb] ∧
           let hv8 : Heap := hset (hset hv7 hv4.size 0 (.int .i64 ra2)) hv4.size (0 + 1) (.slice raA raL raC)
           Jv [.int .i64 ra, .slice rbA rbL rbC, .slice rcA rcL rcC, .int .i64 ra2, .slice raA raL raC] hv8)
           (Jv [.int .i64 0, .slice none 0 0, .slice none 0 0, .int .i64 0, .slice none 0 0] hv5)) ∧
        ∀ kind : Int, ∀ (nodesA : Option Addr) (nodesL nodesC : Nat), ∀ (pathsA : Option Addr) (pathsL pathsC : Nat), ∀ c0 : Int, ∀ (c1A : Option Addr) (c1L c1C : Nat), ∀ hv9, Jv [.int .i64 kind, .slice nodesA nodesL nodesC, .slice pathsA pathsL pathsC, .int .i64 c0, .slice c1A c1L c1C] hv9 →
        cnd (r3 == (0 : Int))
          (∃ Jv2 : List Value → Heap → Prop, -- join 57 ['none']
          ( cnd (kind == (0 : Int))
             (Jv2 [.int .i64 14] hv9)
             (Jv2 [.int .i64 r3] hv9)) ∧
          ∀ nonev : Int, ∀ hv10, Jv2 [.int .i64 nonev] hv10 →
          callX Try.prog 63 #[.agg #[.int .i64 g, .slice gA gL gC]] hv10 [h.size, hv4.size] fun v6 hv11 =>
          ∃ r4 : Int, ∃ (rA : Option Addr) (rL rC : Nat), v6 = .agg #[.int .i64 r4, .slice rA rL rC] ∧
          let hv12 : Heap := hv11.push (.cells #[.int .i64 0, .slice none 0 0] 26)
          let hv13 : Heap := hset (hset hv12 hv11.size 0 (.int .i64 r4)) hv11.size (0 + 1) (.slice rA rL rC)
          ∃ xs : List Value, Reads hv13 1 edgesA edgesL xs ∧ (edgesA = none → edgesC = 0) ∧ (∀ v ∈ xs, v.oneCell' = true) ∧ ∃ old, Ownd hv13 3 1 none 0 0 old ∧ (∀ b ∈ ([hv11.size, h.size, hv4.size] : List Nat), b ∉ blkOf none) ∧ (0 + edgesL) * 8 ≤ 140737488355328 ∧ (0 + edgesL) ≤ maxLen ∧
          ∀ sA sC hv14, Ownd hv14 3 1 sA (0 + edgesL) sC (old ++ xs) → Fr (blkOf none) hv13 hv14 → ((sA = none ∧ sC = 0) ∨ ∃ g, sA = some ⟨g, 0, none⟩ ∧ hv13.size ≤ g) → (0 < (0 + edgesL) → Fr [] hv13 hv14) →
          let hv15 : Heap := hv14.push (.cells #[.int .i64 (-5)] 3)
          ∃ old2, Ownd hv15 3 1 sA (0 + edgesL) sC old2 ∧ (∀ b ∈ ([hv14.size, hv11.size, h.size, hv4.size] : List Nat), b ∉ blkOf sA) ∧ ((0 + edgesL) + 1) * 8 ≤ 140737488355328 ∧ ((0 + edgesL) + 1) ≤ maxLen ∧
          ∀ sA2 sC2 hv16, Ownd hv16 3 1 sA2 ((0 + edgesL) + 1) sC2 (old2 ++ [.int .i64 (-5)]) → Fr (blkOf sA) hv15 hv16 → ((sA2 = sA ∧ sC2 = sC) ∨ ∃ g, sA2 = some ⟨g, 0, none⟩ ∧ hv15.size ≤ g) → (sC < ((0 + edgesL) + 1) → Fr [] hv15 hv16) →
          0 ≤ ((edgesL : Nat) : Int) ∧ ((edgesL : Nat) : Int) ≤ (sC2 : Nat) ∧ let hv17 : Heap := hv16.push (.cells #[.slice none 0 0, .int .i64 0] 90)
          ∃ (Iv : List Value → Heap → Prop) (m : List Value → Heap → Nat), Iv [.int .i64 0] hv17 ∧ -- loop 0: ['turn']
          ∀ turn : Int, ∀ hv18, Iv [.int .i64 turn] hv18 →
          cnd (decide (turn < (2 : Int)))
            (callX Try.prog 64 #[.agg #[.int .i64 r4, .slice rA rL rC], .slice (if sC2 = 0 then sA2 else Option.map (fun addr => Addr.add addr (0 * 1)) sA2) ((Int.toNat ((edgesL : Nat) : Int)) - 0) (sC2 - 0)] hv18 [h.size, hv4.size, hv11.size] fun v7 hv19 =>
            ∃ ra3 : Int, ∃ rb2 : Int, v7 = .tuple #[.int .i64 ra3, .int .i64 rb2] ∧
            callX Try.prog 65 #[.agg #[.int .i64 r4, .slice rA rL rC], .slice (if sC2 = 0 then sA2 else Option.map (fun addr => Addr.add addr (0 * 1)) sA2) ((Int.toNat ((edgesL : Nat) : Int)) - 0) (sC2 - 0)] hv19 [h.size, hv4.size, hv11.size] fun v8 hv20 =>
            ∃ (raA2 : Option Addr) (raL2 raC2 : Nat), ∃ rb3 : Int, v8 = .tuple #[.slice raA2 raL2 raC2, .int .i64 rb3] ∧
            callX Try.prog 66 #[.agg #[.int .i64 r4, .slice rA rL rC], .slice (if sC2 = 0 then sA2 else Option.map (fun addr => Addr.add addr (0 * 1)) sA2) ((Int.toNat ((edgesL : Nat) : Int)) - 0) (sC2 - 0)] hv20 [h.size, hv4.size, hv11.size] fun v9 hv21 =>
            ∃ (raA3 : Option Addr) (raL3 raC3 : Nat), ∃ rb4 : Int, v9 = .tuple #[.slice raA3 raL3 raC3, .int .i64 rb4] ∧
            callX Try.prog 67 #[.agg #[.int .i64 r4, .slice rA rL rC], .slice (if sC2 = 0 then sA2 else Option.map (fun addr => Addr.add addr (0 * 1)) sA2) ((Int.toNat ((edgesL : Nat) : Int)) - 0) (sC2 - 0)] hv21 [h.size, hv4.size, hv11.size] fun v10 hv22 =>
            ∃ ra4 : Int, ∃ (raA4 : Option Addr) (raL4 raC4 : Nat), ∃ rb5 : Int, v10 = .tuple #[.agg #[.int .i64 ra4, .slice raA4 raL4 raC4], .int .i64 rb5] ∧
            let hv23 : Heap := hv22.push (.cells #[.int .i64 0, .slice none 0 0] 26)
            let hv24 : Heap := hset (hset hv23 hv22.size 0 (.int .i64 ra4)) hv22.size (0 + 1) (.slice raA4 raL4 raC4)
            let K := fun (hv28 : Heap) =>
              (R (.bool false) hv28)
            cnd (rb2 != r3)
              (K hv24)
              (cnd (ra3 != kind)
                (K hv24)
                (cnd (rb3 != nonev)
                  (K hv24)
                  (cnd (rb4 != nonev)
                    (K hv24)
                    (cnd (rb5 != nonev)
                      (K hv24)
                      (callX Try.prog 68 #[.slice raA2 raL2 raC2, .slice nodesA nodesL nodesC] hv24 [hv22.size, h.size, hv4.size, hv11.size] fun v11 hv25 =>
                      ∃ r5 : Bool, v11 = .bool r5 ∧
                      cnd (!r5)
                        (K hv25)
                        (callX Try.prog 69 #[.slice raA3 raL3 raC3, .slice pathsA pathsL pathsC] hv25 [hv22.size, h.size, hv4.size, hv11.size] fun v12 hv26 =>
                        ∃ r6 : Bool, v12 = .bool r6 ∧
                        cnd (!r6)
                          (K hv26)
                          (callX Try.prog 40 #[.agg #[.int .i64 ra4, .slice raA4 raL4 raC4], .agg #[.int .i64 c0, .slice c1A c1L c1C]] hv26 [hv22.size, h.size, hv4.size, hv11.size] fun v13 hv27 =>
                          ∃ r7 : Bool, v13 = .bool r7 ∧
                          cnd (!r7)
                            (R (.bool false) hv27)
                            (let hv29 : Heap := hv27.push (.cells #[.slice raA2 raL2 raC2] 40)
                            callX Try.prog 70 #[.pointer (some (⟨hv16.size, 0, none⟩ : Addr)), .slice (some (⟨hv27.size, 0, none⟩ : Addr)) 1 1] hv29 [hv22.size, h.size, hv4.size, hv11.size] fun v14 hv30 =>
                            v14 = .tuple #[] ∧
                            callX Try.prog 71 #[.pointer (some (⟨hv16.size, 0, none⟩ : Addr)), .slice raA3 raL3 raC3] hv30 [hv22.size, h.size, hv4.size, hv11.size] fun v15 hv31 =>
                            v15 = .tuple #[] ∧
                            callX Try.prog 41 #[.agg #[.int .i64 ra4, .slice raA4 raL4 raC4]] hv31 [hv22.size, h.size, hv4.size, hv11.size] fun v16 hv32 =>
                            v16 = .tuple #[] ∧
                            Iv [.int .i64 (IntKind.i64.wrap (turn + (1 : Int)))] hv32 ∧ m [.int .i64 (IntKind.i64.wrap (turn + (1 : Int)))] hv32 < m [.int .i64 turn] hv18)))))))))
            (let K2 := fun (hv36 : Heap) =>
              (R (.bool false) hv36)
            callX Try.prog 72 #[.pointer (some (⟨hv16.size, 0, none⟩ : Addr))] hv18 [h.size, hv4.size, hv11.size] fun v17 hv33 =>
            ∃ r8 : Bool, v17 = .bool r8 ∧
            cnd r8
              (callX Try.prog 73 #[.agg #[.int .i64 r4, .slice rA rL rC], .agg #[.int .i64 g, .slice gA gL gC]] hv33 [h.size, hv4.size, hv11.size] fun v18 hv34 =>
              ∃ r9 : Bool, v18 = .bool r9 ∧
              cnd r9
                (callX Try.prog 68 #[.slice (if sC2 = 0 then sA2 else Option.map (fun addr => Addr.add addr (0 * 1)) sA2) ((Int.toNat ((edgesL : Nat) : Int)) - 0) (sC2 - 0), .slice edgesA edgesL edgesC] hv34 [h.size, hv4.size, hv11.size] fun v19 hv35 =>
                ∃ r10 : Bool, v19 = .bool r10 ∧
                R (.bool r10) hv35)
                (K2 hv34))
              (K2 hv33)))
          (callX Try.prog 63 #[.agg #[.int .i64 g, .slice gA gL gC]] hv9 [hv4.size, h.size] fun v20 hv37 =>
          ∃ r11 : Int, ∃ (rA2 : Option Addr) (rL2 rC2 : Nat), v20 = .agg #[.int .i64 r11, .slice rA2 rL2 rC2] ∧
          let hv38 : Heap := hv37.push (.cells #[.int .i64 0, .slice none 0 0] 26)
          let hv39 : Heap := hset (hset hv38 hv37.size 0 (.int .i64 r11)) hv37.size (0 + 1) (.slice rA2 rL2 rC2)
          ∃ xs2 : List Value, Reads hv39 1 edgesA edgesL xs2 ∧ (edgesA = none → edgesC = 0) ∧ (∀ v ∈ xs2, v.oneCell' = true) ∧ ∃ old3, Ownd hv39 3 1 none 0 0 old3 ∧ (∀ b ∈ ([hv37.size, hv4.size, h.size] : List Nat), b ∉ blkOf none) ∧ (0 + edgesL) * 8 ≤ 140737488355328 ∧ (0 + edgesL) ≤ maxLen ∧
          ∀ sA3 sC3 hv40, Ownd hv40 3 1 sA3 (0 + edgesL) sC3 (old3 ++ xs2) → Fr (blkOf none) hv39 hv40 → ((sA3 = none ∧ sC3 = 0) ∨ ∃ g, sA3 = some ⟨g, 0, none⟩ ∧ hv39.size ≤ g) → (0 < (0 + edgesL) → Fr [] hv39 hv40) →
          let hv41 : Heap := hv40.push (.cells #[.int .i64 (-5)] 3)
          ∃ old4, Ownd hv41 3 1 sA3 (0 + edgesL) sC3 old4 ∧ (∀ b ∈ ([hv40.size, hv37.size, hv4.size, h.size] : List Nat), b ∉ blkOf sA3) ∧ ((0 + edgesL) + 1) * 8 ≤ 140737488355328 ∧ ((0 + edgesL) + 1) ≤ maxLen ∧
          ∀ sA4 sC4 hv42, Ownd hv42 3 1 sA4 ((0 + edgesL) + 1) sC4 (old4 ++ [.int .i64 (-5)]) → Fr (blkOf sA3) hv41 hv42 → ((sA4 = sA3 ∧ sC4 = sC3) ∨ ∃ g, sA4 = some ⟨g, 0, none⟩ ∧ hv41.size ≤ g) → (sC3 < ((0 + edgesL) + 1) → Fr [] hv41 hv42) →
          0 ≤ ((edgesL : Nat) : Int) ∧ ((edgesL : Nat) : Int) ≤ (sC4 : Nat) ∧ let hv43 : Heap := hv42.push (.cells #[.slice none 0 0, .int .i64 0] 90)
          ∃ (Iv2 : List Value → Heap → Prop) (m2 : List Value → Heap → Nat), Iv2 [.int .i64 0] hv43 ∧ -- loop 0: ['turn']
          ∀ turn2 : Int, ∀ hv44, Iv2 [.int .i64 turn2] hv44 →
          cnd (decide (turn2 < (2 : Int)))
            (callX Try.prog 64 #[.agg #[.int .i64 r11, .slice rA2 rL2 rC2], .slice (if sC4 = 0 then sA4 else Option.map (fun addr => Addr.add addr (0 * 1)) sA4) ((Int.toNat ((edgesL : Nat) : Int)) - 0) (sC4 - 0)] hv44 [h.size, hv4.size, hv37.size] fun v21 hv45 =>
            ∃ ra5 : Int, ∃ rb6 : Int, v21 = .tuple #[.int .i64 ra5, .int .i64 rb6] ∧
            callX Try.prog 65 #[.agg #[.int .i64 r11, .slice rA2 rL2 rC2], .slice (if sC4 = 0 then sA4 else Option.map (fun addr => Addr.add addr (0 * 1)) sA4) ((Int.toNat ((edgesL : Nat) : Int)) - 0) (sC4 - 0)] hv45 [h.size, hv4.size, hv37.size] fun v22 hv46 =>
            ∃ (raA5 : Option Addr) (raL5 raC5 : Nat), ∃ rb7 : Int, v22 = .tuple #[.slice raA5 raL5 raC5, .int .i64 rb7] ∧
            callX Try.prog 66 #[.agg #[.int .i64 r11, .slice rA2 rL2 rC2], .slice (if sC4 = 0 then sA4 else Option.map (fun addr => Addr.add addr (0 * 1)) sA4) ((Int.toNat ((edgesL : Nat) : Int)) - 0) (sC4 - 0)] hv46 [h.size, hv4.size, hv37.size] fun v23 hv47 =>
            ∃ (raA6 : Option Addr) (raL6 raC6 : Nat), ∃ rb8 : Int, v23 = .tuple #[.slice raA6 raL6 raC6, .int .i64 rb8] ∧
            callX Try.prog 67 #[.agg #[.int .i64 r11, .slice rA2 rL2 rC2], .slice (if sC4 = 0 then sA4 else Option.map (fun addr => Addr.add addr (0 * 1)) sA4) ((Int.toNat ((edgesL : Nat) : Int)) - 0) (sC4 - 0)] hv47 [h.size, hv4.size, hv37.size] fun v24 hv48 =>
            ∃ ra6 : Int, ∃ (raA7 : Option Addr) (raL7 raC7 : Nat), ∃ rb9 : Int, v24 = .tuple #[.agg #[.int .i64 ra6, .slice raA7 raL7 raC7], .int .i64 rb9] ∧
            let hv49 : Heap := hv48.push (.cells #[.int .i64 0, .slice none 0 0] 26)
            let hv50 : Heap := hset (hset hv49 hv48.size 0 (.int .i64 ra6)) hv48.size (0 + 1) (.slice raA7 raL7 raC7)
            let K3 := fun (hv54 : Heap) =>
              (R (.bool false) hv54)
            cnd (rb6 != r3)
              (K3 hv50)
              (cnd (ra5 != kind)
                (K3 hv50)
                (cnd (rb7 != r3)
                  (K3 hv50)
                  (cnd (rb8 != r3)
                    (K3 hv50)
                    (cnd (rb9 != r3)
                      (K3 hv50)
                      (callX Try.prog 68 #[.slice raA5 raL5 raC5, .slice nodesA nodesL nodesC] hv50 [hv48.size, h.size, hv4.size, hv37.size] fun v25 hv51 =>
                      ∃ r12 : Bool, v25 = .bool r12 ∧
                      cnd (!r12)
                        (K3 hv51)
                        (callX Try.prog 69 #[.slice raA6 raL6 raC6, .slice pathsA pathsL pathsC] hv51 [hv48.size, h.size, hv4.size, hv37.size] fun v26 hv52 =>
                        ∃ r13 : Bool, v26 = .bool r13 ∧
                        cnd (!r13)
                          (K3 hv52)
                          (callX Try.prog 40 #[.agg #[.int .i64 ra6, .slice raA7 raL7 raC7], .agg #[.int .i64 c0, .slice c1A c1L c1C]] hv52 [hv48.size, h.size, hv4.size, hv37.size] fun v27 hv53 =>
                          ∃ r14 : Bool, v27 = .bool r14 ∧
                          cnd (!r14)
                            (R (.bool false) hv53)
                            (let hv55 : Heap := hv53.push (.cells #[.slice raA5 raL5 raC5] 40)
                            callX Try.prog 70 #[.pointer (some (⟨hv42.size, 0, none⟩ : Addr)), .slice (some (⟨hv53.size, 0, none⟩ : Addr)) 1 1] hv55 [hv48.size, h.size, hv4.size, hv37.size] fun v28 hv56 =>
                            v28 = .tuple #[] ∧
                            callX Try.prog 71 #[.pointer (some (⟨hv42.size, 0, none⟩ : Addr)), .slice raA6 raL6 raC6] hv56 [hv48.size, h.size, hv4.size, hv37.size] fun v29 hv57 =>
                            v29 = .tuple #[] ∧
                            callX Try.prog 41 #[.agg #[.int .i64 ra6, .slice raA7 raL7 raC7]] hv57 [hv48.size, h.size, hv4.size, hv37.size] fun v30 hv58 =>
                            v30 = .tuple #[] ∧
                            Iv2 [.int .i64 (IntKind.i64.wrap (turn2 + (1 : Int)))] hv58 ∧ m2 [.int .i64 (IntKind.i64.wrap (turn2 + (1 : Int)))] hv58 < m2 [.int .i64 turn2] hv44)))))))))
            (let K4 := fun (hv62 : Heap) =>
              (R (.bool false) hv62)
            callX Try.prog 72 #[.pointer (some (⟨hv42.size, 0, none⟩ : Addr))] hv44 [h.size, hv4.size, hv37.size] fun v31 hv59 =>
            ∃ r15 : Bool, v31 = .bool r15 ∧
            cnd r15
              (callX Try.prog 73 #[.agg #[.int .i64 r11, .slice rA2 rL2 rC2], .agg #[.int .i64 g, .slice gA gL gC]] hv59 [h.size, hv4.size, hv37.size] fun v32 hv60 =>
              ∃ r16 : Bool, v32 = .bool r16 ∧
              cnd r16
                (callX Try.prog 68 #[.slice (if sC4 = 0 then sA4 else Option.map (fun addr => Addr.add addr (0 * 1)) sA4) ((Int.toNat ((edgesL : Nat) : Int)) - 0) (sC4 - 0), .slice edgesA edgesL edgesC] hv60 [h.size, hv4.size, hv37.size] fun v33 hv61 =>
                ∃ r17 : Bool, v33 = .bool r17 ∧
                R (.bool r17) hv61)
                (K4 hv60))
              (K4 hv59))))))
theorem calls12 {h : Heap} {R : Value → Heap → Prop} (g : Int) (gA : Option Addr) (gL gC : Nat) (edgesA : Option Addr) (edgesL edgesC : Nat) (H : S12 g gA gL gC edgesA edgesL edgesC h R) : CallsH Try.prog 12 #[.agg #[.int .i64 g, .slice gA gL gC], .slice edgesA edgesL edgesC] h R := by
  have e : S12 g gA gL gC edgesA edgesL edgesC h R = FX (envX [2, 9, 11, 21, 62] 159) { loops := [(0, ⟨[1, 2, 5, 6, 7, 8, 9, 10, 11, 12, 13], [14], [2, 9, 11], []⟩)], joins := [(37, ⟨[1, 2, 5, 9], [6, 7, 8], [2], [9]⟩), (57, ⟨[1, 2, 5, 6, 7, 8, 9], [10], [2, 9], []⟩)], blocks := [], draws := [] } Try.f12 (Try.f12.body.getD .skip) [.agg #[.int .i64 g, .slice gA gL gC], .slice edgesA edgesL edgesC] h R := by kernel_rfl
  exact calls_of_FX (envX_ok _ _) Try.func12 (by kernel_rfl) (by kernel_rfl) (by kernel_rfl) (e ▸ H)
/-- tracery/tracerylaw12.KuraAll -/
def Ok12 (g : Int) (edgesV : List (Int × Int)) (edgesV2 : List Int) (R : Bool → Prop) : Prop :=
  ∀ (h : Heap) (gA : Option Addr) (gL gC : Nat) (edgesA : Option Addr) (edgesL edgesC : Nat), Hp h [Ck.vw eP gA gL gC edgesV, Ck.vw eI edgesA edgesL edgesC edgesV2] → CallsH Try.prog 12 #[.agg #[.int .i64 g, .slice gA gL gC], .slice edgesA edgesL edgesC] h fun v h' => ∃ (rV : Bool), Sy h [] h' [] ∧ v = .bool rV ∧ R rV
theorem Ok12.mono {g edgesV edgesV2} {R R' : Bool → Prop} (H : Ok12 g edgesV edgesV2 R) (kz : ∀ rV, R rV → R' rV) : Ok12 g edgesV edgesV2 R' :=
  fun h gA gL gC edgesA edgesL edgesC hp => (H h gA gL gC edgesA edgesL edgesC hp).mono fun _ _ ⟨rV, P, e, q⟩ => ⟨rV, P, e, kz _ q⟩
def T12 (g : Int) (edgesV : List (Int × Int)) (edgesV2 : List Int) (R : Bool → Prop) : Prop :=
  Ok58 (fun r =>
  cnd (!r)
    (R false)
    (Ok59 g edgesV (fun r2 =>
    cnd (!r2)
      (R true)
      (cnd (decide (((edgesV2.length : Nat) : Int) > (400 : Int)))
        (R true)
        (Ok60 g edgesV edgesV2 (fun r3 =>
        ∃ Jv : Int → List Int → List (List Int) → Int → List (Int × Int) → Prop,
        ( cnd (r3 == (0 : Int))
           (Ok61 g edgesV edgesV2 (fun ra rb_2 rc =>
           Ok62 g edgesV edgesV2 (fun ra2 ra_2 rb =>
           Jv ra rb_2 rc ra2 ra_2)))
           (Jv 0 ([] : List Int) ([] : List (List Int)) 0 ([] : List (Int × Int)))) ∧
        ∀ kind : Int, ∀ nodes : List Int, ∀ paths : List (List Int), ∀ c0 : Int, ∀ c1 : List (Int × Int), Jv kind nodes paths c0 c1 →
        cnd (r3 == (0 : Int))
          (∃ Jv2 : Int → Prop,
          ( cnd (kind == (0 : Int))
             (Jv2 14)
             (Jv2 r3)) ∧
          ∀ nonev : Int, Jv2 nonev →
          Ok63 g edgesV (fun r4 r_2 =>
          (0 + edgesV2.length) < 1000000000000 ∧ ((0 + edgesV2.length) + 1) < 1000000000000 ∧ 0 ≤ ((edgesV2.length : Nat) : Int) ∧ ((edgesV2.length : Nat) : Int) ≤ ((((0 + edgesV2.length) + 1) : Nat) : Int) ∧ ∃ (Iv : Int → List (List Int) → Int → Prop) (m : Int → List (List Int) → Int → Nat), Iv 0 ([]) 0 ∧
          ∀ turn : Int, ∀ y : List (List Int), ∀ y_2 : Int, Iv turn y y_2 →
          cnd (decide (turn < (2 : Int)))
            (Ok64 r4 r_2 (((([] : List Int) ++ edgesV2) ++ [(-5)]).take (Int.toNat ((edgesV2.length : Nat) : Int))) (fun ra3 rb2 =>
            Ok65 r4 r_2 (((([] : List Int) ++ edgesV2) ++ [(-5)]).take (Int.toNat ((edgesV2.length : Nat) : Int))) (fun ra_3 rb3 =>
            Ok66 r4 r_2 (((([] : List Int) ++ edgesV2) ++ [(-5)]).take (Int.toNat ((edgesV2.length : Nat) : Int))) (fun ra_4 rb4 =>
            Ok67 r4 r_2 (((([] : List Int) ++ edgesV2) ++ [(-5)]).take (Int.toNat ((edgesV2.length : Nat) : Int))) (fun ra4 ra_5 rb5 =>
            ∃ Jv_2 : Prop,
            ( cnd (rb2 != r3)
               (Jv_2)
               (cnd (ra3 != kind)
                 (Jv_2)
                 (cnd (rb3 != nonev)
                   (Jv_2)
                   (cnd (rb4 != nonev)
                     (Jv_2)
                     (cnd (rb5 != nonev)
                       (Jv_2)
                       (Ok68 ra_3 nodes (fun r5 =>
                       cnd (!r5)
                         (Jv_2)
                         (Ok69 ra_4 paths (fun r6 =>
                         cnd (!r6)
                           (Jv_2)
                           (Ok40 ra4 ra_5 c0 c1 (fun r7 =>
                           cnd (!r7)
                             (R false)
                             (Ok70 y y_2 ([ra_3] : List (List Int)) (fun lV1 sizeV2 =>
                             Ok71 lV1 sizeV2 ra_4 (fun lV1_2 sizeV2_2 =>
                             Ok41 ra4 ra_5 (Iv (IntKind.i64.wrap (turn + (1 : Int))) lV1_2 sizeV2_2 ∧ m (IntKind.i64.wrap (turn + (1 : Int))) lV1_2 sizeV2_2 < m turn y y_2))))))))))))))) ∧
            (Jv_2 →
            R false))))))
            (∃ Jv_3 : List (List Int) → Int → Prop,
            ( Ok72 y y_2 (fun lV1_3 sizeV2_3 r8 =>
             cnd r8
               (Ok73 r4 r_2 g edgesV (fun r9 =>
               cnd r9
                 (Ok68 (((([] : List Int) ++ edgesV2) ++ [(-5)]).take (Int.toNat ((edgesV2.length : Nat) : Int))) edgesV2 (fun r10 =>
                 R r10))
                 (Jv_3 lV1_3 sizeV2_3)))
               (Jv_3 lV1_3 sizeV2_3))) ∧
            ∀ y_3 : List (List Int), ∀ y_4 : Int, Jv_3 y_3 y_4 →
            R false)))
          (Ok63 g edgesV (fun r11 r_3 =>
          (0 + edgesV2.length) < 1000000000000 ∧ ((0 + edgesV2.length) + 1) < 1000000000000 ∧ 0 ≤ ((edgesV2.length : Nat) : Int) ∧ ((edgesV2.length : Nat) : Int) ≤ ((((0 + edgesV2.length) + 1) : Nat) : Int) ∧ ∃ (Iv2 : Int → List (List Int) → Int → Prop) (m2 : Int → List (List Int) → Int → Nat), Iv2 0 ([]) 0 ∧
          ∀ turn2 : Int, ∀ y_5 : List (List Int), ∀ y_6 : Int, Iv2 turn2 y_5 y_6 →
          cnd (decide (turn2 < (2 : Int)))
            (Ok64 r11 r_3 (((([] : List Int) ++ edgesV2) ++ [(-5)]).take (Int.toNat ((edgesV2.length : Nat) : Int))) (fun ra5 rb6 =>
            Ok65 r11 r_3 (((([] : List Int) ++ edgesV2) ++ [(-5)]).take (Int.toNat ((edgesV2.length : Nat) : Int))) (fun ra_6 rb7 =>
            Ok66 r11 r_3 (((([] : List Int) ++ edgesV2) ++ [(-5)]).take (Int.toNat ((edgesV2.length : Nat) : Int))) (fun ra_7 rb8 =>
            Ok67 r11 r_3 (((([] : List Int) ++ edgesV2) ++ [(-5)]).take (Int.toNat ((edgesV2.length : Nat) : Int))) (fun ra6 ra_8 rb9 =>
            ∃ Jv_4 : Prop,
            ( cnd (rb6 != r3)
               (Jv_4)
               (cnd (ra5 != kind)
                 (Jv_4)
                 (cnd (rb7 != r3)
                   (Jv_4)
                   (cnd (rb8 != r3)
                     (Jv_4)
                     (cnd (rb9 != r3)
                       (Jv_4)
                       (Ok68 ra_6 nodes (fun r12 =>
                       cnd (!r12)
                         (Jv_4)
                         (Ok69 ra_7 paths (fun r13 =>
                         cnd (!r13)
                           (Jv_4)
                           (Ok40 ra6 ra_8 c0 c1 (fun r14 =>
                           cnd (!r14)
                             (R false)
                             (Ok70 y_5 y_6 ([ra_6] : List (List Int)) (fun lV1_4 sizeV2_4 =>
                             Ok71 lV1_4 sizeV2_4 ra_7 (fun lV1_5 sizeV2_5 =>
                             Ok41 ra6 ra_8 (Iv2 (IntKind.i64.wrap (turn2 + (1 : Int))) lV1_5 sizeV2_5 ∧ m2 (IntKind.i64.wrap (turn2 + (1 : Int))) lV1_5 sizeV2_5 < m2 turn2 y_5 y_6))))))))))))))) ∧
            (Jv_4 →
            R false))))))
            (∃ Jv_5 : List (List Int) → Int → Prop,
            ( Ok72 y_5 y_6 (fun lV1_6 sizeV2_6 r15 =>
             cnd r15
               (Ok73 r11 r_3 g edgesV (fun r16 =>
               cnd r16
                 (Ok68 (((([] : List Int) ++ edgesV2) ++ [(-5)]).take (Int.toNat ((edgesV2.length : Nat) : Int))) edgesV2 (fun r17 =>
                 R r17))
                 (Jv_5 lV1_6 sizeV2_6)))
               (Jv_5 lV1_6 sizeV2_6))) ∧
            ∀ y_7 : List (List Int), ∀ y_8 : Int, Jv_5 y_7 y_8 →
            R false)))))))))
theorem ok12 {g edgesV edgesV2} {R : Bool → Prop} (T : T12 g edgesV edgesV2 R) : Ok12 g edgesV edgesV2 R := by
  intro h gA gL gC edgesA edgesL edgesC H
  have Y : Sy h [] h _ := Sy.startM H rfl
  obtain rfl := Y.lenV 0 rfl
  obtain rfl := Y.lenV 1 rfl
  apply calls12
  unfold S12
  unfold T12 at T
  intro hv
  have Y : Sy _ _ hv [_, _, _] := Y.junk _
  clear_value hv
  refine callX_sy (T _ (Hp.nil _)) (fun _ _ ⟨_, p, _⟩ => p.fr) (allc (fun h => by cases h) alln) ?_
  rintro v hv2 ⟨r, PP, rfl, T⟩
  have Y : Sy _ _ hv2 [_, _, _] := Y.gr PP.fr
  clear PP
  refine ⟨r, rfl, ?_⟩
  refine cnd_imp T (fun T => ?_) (fun T => ?_)
  · exact ⟨_, Y.pick [] rfl, rfl, T⟩
  · refine callX_sy (T _ _ _ _ (Y.pick [0] rfl).hp) (fun _ _ ⟨_, p, _⟩ => p.fr) (allc (fun h => by cases h) alln) ?_
    rintro v2 hv3 ⟨r2, PP, rfl, T⟩
    have Y : Sy _ _ hv3 [_, _, _] := Y.gr PP.fr
    clear PP
    refine ⟨r2, rfl, ?_⟩
    refine cnd_imp T (fun T => ?_) (fun T => ?_)
    · exact ⟨_, Y.pick [] rfl, rfl, T⟩
    · refine cnd_imp T (fun T => ?_) (fun T => ?_)
      · exact ⟨_, Y.pick [] rfl, rfl, T⟩
      · refine callX_sy (T _ _ _ _ _ _ _ (Y.pick [0, 1] rfl).hp) (fun _ _ ⟨_, p, _⟩ => p.fr) (allc (fun h => by cases h) alln) ?_
        rintro v3 hv4 ⟨r3, PP, rfl, T⟩
        have Y : Sy _ _ hv4 [_, _, _] := Y.gr PP.fr
        clear PP
        refine ⟨r3, rfl, ?_⟩
        intro hv5
        have Y : Sy _ _ hv5 [_, _, _, _] := Y.junk _
        clear_value hv5
        obtain ⟨Jv, T0, T1⟩ := T
        obtain ⟨B, hB, _⟩ := Y.cut [] [0, 1, 2, 3] rfl
        refine ⟨fun lz h' => ∃ (kind : Int) (nodesA : Option Addr) (nodesL nodesC : Nat) (nodes : List Int) (pathsA : Option Addr) (pathsL pathsC : Nat) (pathsH : List RowH) (paths : List (List Int)) (c0 : Int) (c1A : Option Addr) (c1L c1C : Nat) (c1 : List (Int × Int)), lz = [.int .i64 kind, .slice nodesA nodesL nodesC, .slice pathsA pathsL pathsC, .int .i64 c0, .slice c1A c1L c1C] ∧ Sy h [] h' ([Ck.sl eI 3 nodesA nodesL nodesC nodes, Ck.rows eI 40 3 pathsA pathsL pathsC pathsH paths, Ck.sl eP 35 c1A c1L c1C c1] ++ B) ∧ Jv kind nodes paths c0 c1, ?_, ?_⟩
        · subst hB
          replace T := T0
          clear T0 T1
          refine cnd_imp T (fun T => ?_) (fun T => ?_)
          · refine callX_sy (T _ _ _ _ _ _ _ (Y.pick [0, 1] rfl).hp) (fun _ _ ⟨_, _, _, _, _, _, _, _, _, _, p, _⟩ => p.fr) (allc (fun h => by cases h) (allc (fun h => by cases h) alln)) ?_
            rintro v4 hv6 ⟨ra, rbA, rbL, rbC, rb_2, rcA, rcL, rcC, rcH, rc, PP, rfl, T⟩
            have Y : Sy _ _ hv6 [_, _, _, _, _, _] := Y.callV PP ⟨rfl, ⟨rfl, trivial⟩⟩
            clear PP
            obtain rfl := Y.lenS 4 rfl
            obtain rfl := Y.lenR 5 rfl
            refine ⟨ra, _, _, _, _, _, _, rfl, ?_⟩
            refine callX_sy (T _ _ _ _ _ _ _ (Y.pick [0, 1] rfl).hp) (fun _ _ ⟨_, _, _, _, _, _, p, _⟩ => p.fr) (allc (fun h => by cases h) (allc (fun h => by cases h) alln)) ?_
            rintro v5 hv7 ⟨ra2, raA, raL, raC, ra_2, rb, PP, rfl, T⟩
            have Y : Sy _ _ hv7 [_, _, _, _, _, _, _] := Y.callV PP ⟨rfl, trivial⟩
            clear PP
            obtain rfl := Y.lenS 6 rfl
            refine ⟨ra2, _, _, _, rb, rfl, ?_⟩
            intro hv8
            have Y : Sy _ _ hv8 [_, _, _, _, _, _, _] := ((Y.stJ 3 rfl _ _).stJ 3 rfl _ _)
            clear_value hv8
            exact ⟨_, _, _, _, _, _, _, _, _, _, _, _, _, _, _, rfl, Y.pick [4, 5, 6, 0, 1, 2, 3] rfl, T⟩
          · have Y : Sy _ _ _ [_, _, _, _, _] := Y.nilS eI 3
            have Y : Sy _ _ _ [_, _, _, _, _, _] := Y.nilR eI 40 3
            have Y : Sy _ _ _ [_, _, _, _, _, _, _] := Y.nilS eP 35
            exact ⟨_, _, _, _, _, _, _, _, _, _, _, _, _, _, _, rfl, Y.pick [4, 5, 6, 0, 1, 2, 3] rfl, T⟩
        · subst hB
          clear T0 Y
          rintro kind nodesA nodesL nodesC pathsA pathsL pathsC c0 c1A c1L c1C hv9 ⟨kind, nodesA, nodesL, nodesC, nodes, pathsA, pathsL, pathsC, pathsH, paths, c0, c1A, c1L, c1C, c1, e, Y, T⟩
          cases e
          obtain rfl := Y.lenS 0 rfl
          obtain rfl := Y.lenR 1 rfl
          obtain rfl := Y.lenS 2 rfl
          replace T := T1 kind nodes paths c0 c1 T
          have Y : Sy _ _ _ [_, _, _, _, _, _, _] := Y
          refine cnd_imp T (fun T => ?_) (fun T => ?_)
          · obtain ⟨Jv2, T0, T1⟩ := T
            obtain ⟨B_2, hB_2, _⟩ := Y.cut [] [0, 1, 2, 3, 4, 5, 6] rfl
            refine ⟨fun lz h' => ∃ (nonev : Int), lz = [.int .i64 nonev] ∧ Sy h [] h' ([] ++ B_2) ∧ Jv2 nonev, ?_, ?_⟩
            · subst hB_2
              replace T := T0
              clear T0 T1
              refine cnd_imp T (fun T => ?_) (fun T => ?_)
              · exact ⟨_, rfl, Y.pick [0, 1, 2, 3, 4, 5, 6] rfl, T⟩
              · exact ⟨_, rfl, Y.pick [0, 1, 2, 3, 4, 5, 6] rfl, T⟩
            · subst hB_2
              clear T0 Y
              rintro nonev hv10 ⟨nonev, e, Y, T⟩
              cases e
              replace T := T1 nonev T
              have Y : Sy _ _ _ [_, _, _, _, _, _, _] := Y
              refine callX_sy (T _ _ _ _ (Y.pick [3] rfl).hp) (fun _ _ ⟨_, _, _, _, _, p, _⟩ => p.fr) (allc (fun h => by cases h) (allc (fun h => by cases h) alln)) ?_
              rintro v6 hv11 ⟨r4, rA, rL, rC, r_2, PP, rfl, T⟩
              have Y : Sy _ _ hv11 [_, _, _, _, _, _, _, _] := Y.callV PP ⟨rfl, trivial⟩
              clear PP
              obtain rfl := Y.lenM 7 rfl
              refine ⟨r4, _, _, _, rfl, ?_⟩
              intro hv12
              have Y : Sy _ _ hv12 [_, _, _, _, _, _, _, _, _] := Y.junk _
              clear_value hv12
              intro hv13
              have Y : Sy _ _ hv13 [_, _, _, _, _, _, _, _, _] := ((Y.stJ 8 rfl _ _).stJ 8 rfl _ _)
              clear_value hv13
              refine ⟨_, Y.readsV 4 rfl, (Y.capV 4 rfl).2, En.l_one _, ?_⟩
              have Y : Sy _ _ _ [_, _, _, _, _, _, _, _, _, _] := Y.nilS eI 3
              obtain ⟨q, T⟩ := T
              refine ⟨_, Y.ownS 9 rfl, (allc (Y.nJ 9 8 rfl rfl rfl) (allc (Y.nJ 9 5 rfl rfl rfl) (allc (Y.nJ 9 6 rfl rfl rfl) alln))), by first | exact appB q (by decide) | omega, by first | exact appM q | (simp [maxLen]; omega), ?_⟩
              intro sA sC hv14 ow fA gA gB
              have Y : Sy _ _ hv14 [_, _, _, _, _, _, _, _, _, _] := Y.appS 9 rfl edgesV2 ow fA gA rfl (by first | rfl | simp)
              intro hv15
              have Y : Sy _ _ hv15 [_, _, _, _, _, _, _, _, _, _, _] := Y.junk _
              clear_value hv15
              obtain ⟨q_2, T⟩ := T
              refine ⟨_, Y.ownS 9 rfl, (allc (Y.nJ 9 10 rfl rfl rfl) (allc (Y.nJ 9 8 rfl rfl rfl) (allc (Y.nJ 9 5 rfl rfl rfl) (allc (Y.nJ 9 6 rfl rfl rfl) alln)))), by first | exact appB q_2 (by decide) | omega, by first | exact appM q_2 | (simp [maxLen]; omega), ?_⟩
              intro sA2 sC2 hv16 ow fA gA gB
              have Y : Sy _ _ hv16 [_, _, _, _, _, _, _, _, _, _, _] := Y.appS 9 rfl ([(-5)] : List Int) ow fA gA rfl rfl
              obtain ⟨q_3, q_4, T⟩ := T
              refine ⟨q_3, (by have := (Y.capS 9 rfl).1; omega), ?_⟩
              try rw [slice0]
              intro hv17
              have Y : Sy _ _ hv17 [_, _, _, _, _, _, _, _, _, _, _, _] := Y.newO _
              clear_value hv17
              have Y : Sy _ _ _ [_, _, _, _, _, _, _, _, _, _, _, _, _] := Y.nilR eI 40 3
              obtain ⟨Iv, m, T0, T1⟩ := T
              obtain ⟨B_3, hB_3, YB⟩ := Y.cut [11, 12] [0, 1, 2, 3, 4, 5, 6, 7, 8, 9, 10] rfl
              obtain ⟨F, hF⟩ := Y.fnO (k := 11) [0, 1] rfl
              obtain ⟨JJ, hJJ⟩ : ∃ JJ : Nat → List Value → Heap → Prop, JJ = (fun k lz h' => ∃ (turn : Int) (cA : Option Addr) (cL cC : Nat) (yH : List RowH) (y : List (List Int)) (y_2 : Int), lz = [.int .i64 turn] ∧ Sy h [] h' ([F [.slice cA cL cC, .int .i64 y_2], Ck.rows eI 40 3 cA cL cC yH y] ++ B_3) ∧ Iv turn y y_2 ∧ m turn y y_2 = k) := ⟨_, rfl⟩
              refine ⟨fun lz h' => ∃ k, JJ k lz h', Lm JJ, ?_, ?_⟩
              · subst hJJ hB_3 hF
                exact ⟨_, _, _, _, _, _, _, _, rfl, YB, T0, rfl⟩
              · clear YB T0 Y
                intro turn hv18 hI
                obtain ⟨k, hI, hm⟩ := loopIn hI
                subst hJJ hB_3 hF
                obtain ⟨turn, cA, cL, cC, yH, y, y_2, e, Y, T, rfl⟩ := hI
                cases e
                obtain rfl := Y.lenR 1 rfl
                replace T := T1 turn y y_2 T
                have Y : Sy _ _ _ [_, _, _, _, _, _, _, _, _, _, _, _, _] := Y
                refine cnd_imp T (fun T => ?_) (fun T => ?_)
                · refine callX_sy (T _ _ _ _ _ _ _ (((Y.turn 9 rfl To.slmvw).turn 11 rfl (To.slvwT (Int.toNat ((edgesV2.length : Nat) : Int)) (by omega))).pick [9, 11] rfl).hp) (fun _ _ ⟨_, _, p, _⟩ => p.fr) (allc (fun h => by cases h) (allc (fun h => by cases h) (allc (fun h => by cases h) alln))) ?_
                  rintro v7 hv19 ⟨ra3, rb2, PP, rfl, T⟩
                  have Y : Sy _ _ hv19 [_, _, _, _, _, _, _, _, _, _, _, _, _] := Y.gr PP.fr
                  clear PP
                  refine ⟨ra3, rb2, rfl, ?_⟩
                  refine callX_sy (T _ _ _ _ _ _ _ (((Y.turn 9 rfl To.slmvw).turn 11 rfl (To.slvwT (Int.toNat ((edgesV2.length : Nat) : Int)) (by omega))).pick [9, 11] rfl).hp) (fun _ _ ⟨_, _, _, _, _, p, _⟩ => p.fr) (allc (fun h => by cases h) (allc (fun h => by cases h) (allc (fun h => by cases h) alln))) ?_
                  rintro v8 hv20 ⟨raA2, raL2, raC2, ra_3, rb3, PP, rfl, T⟩
                  have Y : Sy _ _ hv20 [_, _, _, _, _, _, _, _, _, _, _, _, _, _] := Y.callV PP ⟨rfl, trivial⟩
                  clear PP
                  obtain rfl := Y.lenS 13 rfl
                  refine ⟨_, _, _, rb3, rfl, ?_⟩
                  refine callX_sy (T _ _ _ _ _ _ _ (((Y.turn 9 rfl To.slmvw).turn 11 rfl (To.slvwT (Int.toNat ((edgesV2.length : Nat) : Int)) (by omega))).pick [9, 11] rfl).hp) (fun _ _ ⟨_, _, _, _, _, _, p, _⟩ => p.fr) (allc (fun h => by cases h) (allc (fun h => by cases h) (allc (fun h => by cases h) alln))) ?_
                  rintro v9 hv21 ⟨raA3, raL3, raC3, raH, ra_4, rb4, PP, rfl, T⟩
                  have Y : Sy _ _ hv21 [_, _, _, _, _, _, _, _, _, _, _, _, _, _, _] := Y.callV PP ⟨rfl, trivial⟩
                  clear PP
                  obtain rfl := Y.lenR 14 rfl
                  refine ⟨_, _, _, rb4, rfl, ?_⟩
                  refine callX_sy (T _ _ _ _ _ _ _ (((Y.turn 9 rfl To.slmvw).turn 11 rfl (To.slvwT (Int.toNat ((edgesV2.length : Nat) : Int)) (by omega))).pick [9, 11] rfl).hp) (fun _ _ ⟨_, _, _, _, _, _, p, _⟩ => p.fr) (allc (fun h => by cases h) (allc (fun h => by cases h) (allc (fun h => by cases h) alln))) ?_
                  rintro v10 hv22 ⟨ra4, raA4, raL4, raC4, ra_5, rb5, PP, rfl, T⟩
                  have Y : Sy _ _ hv22 [_, _, _, _, _, _, _, _, _, _, _, _, _, _, _, _] := Y.callV PP ⟨rfl, trivial⟩
                  clear PP
                  obtain rfl := Y.lenS 15 rfl
                  refine ⟨ra4, _, _, _, rb5, rfl, ?_⟩
                  intro hv23
                  have Y : Sy _ _ hv23 [_, _, _, _, _, _, _, _, _, _, _, _, _, _, _, _, _] := Y.junk _
                  clear_value hv23
                  intro hv24
                  have Y : Sy _ _ hv24 [_, _, _, _, _, _, _, _, _, _, _, _, _, _, _, _, _] := ((Y.stJ 16 rfl _ _).stJ 16 rfl _ _)
                  clear_value hv24
                  obtain ⟨Jv_2, T0, T1⟩ := T
                  obtain ⟨B_4, hB_4, _⟩ := Y.cut [] [0, 1, 2, 3, 4, 5, 6, 7, 8, 9, 10, 11, 12, 13, 14, 15, 16] rfl
                  intro K
                  have hK : ∀  (hv28 : Heap), (Sy h [] hv28 ([] ++ B_4) ∧ Jv_2) → K hv28 := by
                    subst hB_4
                    clear T0 Y
                    rintro hv28 ⟨Y, T⟩
                    replace T := T1 T
                    have Y : Sy _ _ _ [_, _, _, _, _, _, _, _, _, _, _, _, _, _, _, _, _] := Y
                    unfold K
                    exact ⟨_, Y.pick [] rfl, rfl, T⟩
                  subst hB_4
                  replace T := T0
                  clear T0 T1
                  refine cnd_imp T (fun T => ?_) (fun T => ?_)
                  · exact hK _ ⟨Y.pick [0, 1, 2, 3, 4, 5, 6, 7, 8, 9, 10, 11, 12, 13, 14, 15, 16] rfl, T⟩
                  · refine cnd_imp T (fun T => ?_) (fun T => ?_)
                    · exact hK _ ⟨Y.pick [0, 1, 2, 3, 4, 5, 6, 7, 8, 9, 10, 11, 12, 13, 14, 15, 16] rfl, T⟩
                    · refine cnd_imp T (fun T => ?_) (fun T => ?_)
                      · exact hK _ ⟨Y.pick [0, 1, 2, 3, 4, 5, 6, 7, 8, 9, 10, 11, 12, 13, 14, 15, 16] rfl, T⟩
                      · refine cnd_imp T (fun T => ?_) (fun T => ?_)
                        · exact hK _ ⟨Y.pick [0, 1, 2, 3, 4, 5, 6, 7, 8, 9, 10, 11, 12, 13, 14, 15, 16] rfl, T⟩
                        · refine cnd_imp T (fun T => ?_) (fun T => ?_)
                          · exact hK _ ⟨Y.pick [0, 1, 2, 3, 4, 5, 6, 7, 8, 9, 10, 11, 12, 13, 14, 15, 16] rfl, T⟩
                          · refine callX_sy (T _ _ _ _ _ _ _ (((Y.turn 13 rfl To.slvw).turn 2 rfl To.slvw).pick [13, 2] rfl).hp) (fun _ _ ⟨_, p, _⟩ => p.fr) (allc (fun h => by cases h) (allc (fun h => by cases h) (allc (fun h => by cases h) (allc (fun h => by cases h) alln)))) ?_
                            rintro v11 hv25 ⟨r5, PP, rfl, T⟩
                            have Y : Sy _ _ hv25 [_, _, _, _, _, _, _, _, _, _, _, _, _, _, _, _, _] := Y.gr PP.fr
                            clear PP
                            refine ⟨r5, rfl, ?_⟩
                            refine cnd_imp T (fun T => ?_) (fun T => ?_)
                            · exact hK _ ⟨Y.pick [0, 1, 2, 3, 4, 5, 6, 7, 8, 9, 10, 11, 12, 13, 14, 15, 16] rfl, T⟩
                            · refine callX_sy (T _ _ _ _ _ _ _ _ _ (((Y.turn 14 rfl To.rowsv).turn 3 rfl To.rowsv).pick [14, 3] rfl).hp) (fun _ _ ⟨_, p, _⟩ => p.fr) (allc (fun h => by cases h) (allc (fun h => by cases h) (allc (fun h => by cases h) (allc (fun h => by cases h) alln)))) ?_
                              rintro v12 hv26 ⟨r6, PP, rfl, T⟩
                              have Y : Sy _ _ hv26 [_, _, _, _, _, _, _, _, _, _, _, _, _, _, _, _, _] := Y.gr PP.fr
                              clear PP
                              refine ⟨r6, rfl, ?_⟩
                              refine cnd_imp T (fun T => ?_) (fun T => ?_)
                              · exact hK _ ⟨Y.pick [0, 1, 2, 3, 4, 5, 6, 7, 8, 9, 10, 11, 12, 13, 14, 15, 16] rfl, T⟩
                              · refine callX_sy (T _ _ _ _ _ _ _ (((Y.turn 15 rfl To.slvw).turn 4 rfl To.slvw).pick [15, 4] rfl).hp) (fun _ _ ⟨_, p, _⟩ => p.fr) (allc (fun h => by cases h) (allc (fun h => by cases h) (allc (fun h => by cases h) (allc (fun h => by cases h) alln)))) ?_
                                rintro v13 hv27 ⟨r7, PP, rfl, T⟩
                                have Y : Sy _ _ hv27 [_, _, _, _, _, _, _, _, _, _, _, _, _, _, _, _, _] := Y.gr PP.fr
                                clear PP
                                refine ⟨r7, rfl, ?_⟩
                                refine cnd_imp T (fun T => ?_) (fun T => ?_)
                                · exact ⟨_, Y.pick [] rfl, rfl, T⟩
                                · intro hv29
                                  have Y : Sy _ _ hv29 [_, _, _, _, _, _, _, _, _, _, _, _, _, _, _, _, _, _] := Y.litG eI 40 3 [⟨raA2, ra_3.length, raC2⟩] [ra_3] rfl rfl (by simp [maxLen])
                                  have Y : Sy _ _ hv29 [_, _, _, _, _, _, _, _, _, _, _, _, _, _, _, _, _, _] := Y.giveG (P' := Pge 1) 17 13 rfl rfl rfl (i := 0) rfl rfl ge_step
                                  have Y : Sy _ _ hv29 [_, _, _, _, _, _, _, _, _, _, _, _, _, _, _, _, _, _] := Y.turn 17 rfl (To.rowsAll (ge_all (Nat.le_refl _)))
                                  clear_value hv29
                                  refine callX_sy (T _ _ _ _ _ _ _ _ _ _ (Y.pick [0, 1, 17] rfl).hp) (fun _ _ ⟨_, _, _, _, _, _, p, _⟩ => p.fr) (allc (Y.nO 16 [0, 1, 17] rfl rfl) (allc (Y.nO 7 [0, 1, 17] rfl rfl) (allc (Y.nO 8 [0, 1, 17] rfl rfl) (allc (Y.nO 10 [0, 1, 17] rfl rfl) alln)))) ?_
                                  rintro v14 hv30 ⟨lVA2, lVL2, lVC2, lH2, lV1, sizeV2, PP, rfl, T⟩
                                  have Y : Sy _ _ hv30 [_, _, _, _, _, _, _, _, _, _, _, _, _, _, _, _, _] := Y.call2 [0, 1, 17, 2, 3, 4, 5, 6, 7, 8, 9, 10, 11, 12, 13, 14, 15, 16] rfl (A := [_, _, _]) rfl rfl PP ⟨rfl, ⟨rfl, trivial⟩⟩
                                  clear PP
                                  obtain rfl := Y.lenR 1 rfl
                                  refine ⟨rfl, ?_⟩
                                  refine callX_sy (T _ _ _ _ _ _ _ _ _ _ (Y.pick [0, 1, 14] rfl).hp) (fun _ _ ⟨_, _, _, _, _, _, p, _⟩ => p.fr) (allc (Y.nO 16 [0, 1, 14] rfl rfl) (allc (Y.nO 7 [0, 1, 14] rfl rfl) (allc (Y.nO 8 [0, 1, 14] rfl rfl) (allc (Y.nO 10 [0, 1, 14] rfl rfl) alln)))) ?_
                                  rintro v15 hv31 ⟨lVA2_2, lVL2_2, lVC2_2, lH3, lV1_2, sizeV2_2, PP, rfl, T⟩
                                  have Y : Sy _ _ hv31 [_, _, _, _, _, _, _, _, _, _, _, _, _, _, _, _] := Y.call2 [0, 1, 14, 2, 3, 4, 5, 6, 7, 8, 9, 10, 11, 12, 13, 15, 16] rfl (A := [_, _, _]) rfl rfl PP ⟨rfl, ⟨rfl, trivial⟩⟩
                                  clear PP
                                  obtain rfl := Y.lenR 1 rfl
                                  refine ⟨rfl, ?_⟩
                                  refine callX_sy (T _ _ _ _ (Y.pick [14] rfl).hp) (fun _ _ ⟨p, _⟩ => p.fr) (allc (Y.nO 15 [14] rfl rfl) (allc (Y.nO 7 [14] rfl rfl) (allc (Y.nO 8 [14] rfl rfl) (allc (Y.nO 10 [14] rfl rfl) alln)))) ?_
                                  rintro v16 hv32 ⟨PP, rfl, T⟩
                                  have Y : Sy _ _ hv32 [_, _, _, _, _, _, _, _, _, _, _, _, _, _, _] := Y.call2 [14, 0, 1, 2, 3, 4, 5, 6, 7, 8, 9, 10, 11, 12, 13, 15] rfl (A := [_]) rfl rfl PP trivial
                                  clear PP
                                  refine ⟨rfl, ?_⟩
                                  exact loopBack hm ⟨_, _, _, _, _, _, _, rfl, Y.pick [0, 1, 2, 3, 4, 5, 6, 7, 8, 9, 10, 11, 12] rfl, T.1, rfl⟩ T.2
                · obtain ⟨Jv_3, T0, T1⟩ := T
                  obtain ⟨B_5, hB_5, _⟩ := Y.cut [] [2, 3, 4, 5, 6, 7, 8, 9, 10, 11, 12] rfl
                  obtain ⟨F_2, hF_2⟩ := Y.fnO (k := 0) [0, 1] rfl
                  intro K2
                  have hK2 : ∀  (hv36 : Heap), (∃ (cA_2 : Option Addr) (cL_2 cC_2 : Nat) (y_3H : List RowH) (y_3 : List (List Int)) (y_4 : Int), Sy h [] hv36 ([F_2 [.slice cA_2 cL_2 cC_2, .int .i64 y_4], Ck.rows eI 40 3 cA_2 cL_2 cC_2 y_3H y_3] ++ B_5) ∧ Jv_3 y_3 y_4) → K2 hv36 := by
                    subst hB_5 hF_2
                    clear T0 Y
                    rintro hv36 ⟨cA_2, cL_2, cC_2, y_3H, y_3, y_4, Y, T⟩
                    obtain rfl := Y.lenR 1 rfl
                    replace T := T1 y_3 y_4 T
                    have Y : Sy _ _ _ [_, _, _, _, _, _, _, _, _, _, _, _, _] := Y
                    unfold K2
                    exact ⟨_, Y.pick [] rfl, rfl, T⟩
                  subst hB_5 hF_2
                  replace T := T0
                  clear T0 T1
                  refine callX_sy (T _ _ _ _ _ _ (Y.pick [0, 1] rfl).hp) (fun _ _ ⟨_, _, _, _, _, _, _, p, _⟩ => p.fr) (allc (Y.nO 7 [0, 1] rfl rfl) (allc (Y.nO 8 [0, 1] rfl rfl) (allc (Y.nO 10 [0, 1] rfl rfl) alln))) ?_
                  rintro v17 hv33 ⟨lVA2_3, lVL2_3, lVC2_3, lH2_2, lV1_3, sizeV2_3, r8, PP, rfl, T⟩
                  have Y : Sy _ _ hv33 [_, _, _, _, _, _, _, _, _, _, _, _, _] := Y.call2 [0, 1, 2, 3, 4, 5, 6, 7, 8, 9, 10, 11, 12] rfl (A := [_, _]) rfl rfl PP ⟨rfl, ⟨rfl, trivial⟩⟩
                  clear PP
                  obtain rfl := Y.lenR 1 rfl
                  refine ⟨r8, rfl, ?_⟩
                  refine cnd_imp T (fun T => ?_) (fun T => ?_)
                  · refine callX_sy (T _ _ _ _ _ _ _ ((Y.turn 9 rfl To.slmvwm).pick [9, 5] rfl).hp) (fun _ _ ⟨_, p, _⟩ => p.fr) (allc (fun h => by cases h) (allc (fun h => by cases h) (allc (fun h => by cases h) alln))) ?_
                    rintro v18 hv34 ⟨r9, PP, rfl, T⟩
                    have Y : Sy _ _ hv34 [_, _, _, _, _, _, _, _, _, _, _, _, _] := Y.gr PP.fr
                    clear PP
                    refine ⟨r9, rfl, ?_⟩
                    refine cnd_imp T (fun T => ?_) (fun T => ?_)
                    · refine callX_sy (T _ _ _ _ _ _ _ ((Y.turn 11 rfl (To.slvwT (Int.toNat ((edgesV2.length : Nat) : Int)) (by omega))).pick [11, 6] rfl).hp) (fun _ _ ⟨_, p, _⟩ => p.fr) (allc (fun h => by cases h) (allc (fun h => by cases h) (allc (fun h => by cases h) alln))) ?_
                      rintro v19 hv35 ⟨r10, PP, rfl, T⟩
                      have Y : Sy _ _ hv35 [_, _, _, _, _, _, _, _, _, _, _, _, _] := Y.gr PP.fr
                      clear PP
                      refine ⟨r10, rfl, ?_⟩
                      exact ⟨_, Y.pick [] rfl, rfl, T⟩
                    · exact hK2 _ ⟨_, _, _, _, _, _, Y.pick [0, 1, 2, 3, 4, 5, 6, 7, 8, 9, 10, 11, 12] rfl, T⟩
                  · exact hK2 _ ⟨_, _, _, _, _, _, Y.pick [0, 1, 2, 3, 4, 5, 6, 7, 8, 9, 10, 11, 12] rfl, T⟩
          · refine callX_sy (T _ _ _ _ (Y.pick [3] rfl).hp) (fun _ _ ⟨_, _, _, _, _, p, _⟩ => p.fr) (allc (fun h => by cases h) (allc (fun h => by cases h) alln)) ?_
            rintro v20 hv37 ⟨r11, rA2, rL2, rC2, r_3, PP, rfl, T⟩
            have Y : Sy _ _ hv37 [_, _, _, _, _, _, _, _] := Y.callV PP ⟨rfl, trivial⟩
            clear PP
            obtain rfl := Y.lenM 7 rfl
            refine ⟨r11, _, _, _, rfl, ?_⟩
            intro hv38
            have Y : Sy _ _ hv38 [_, _, _, _, _, _, _, _, _] := Y.junk _
            clear_value hv38
            intro hv39
            have Y : Sy _ _ hv39 [_, _, _, _, _, _, _, _, _] := ((Y.stJ 8 rfl _ _).stJ 8 rfl _ _)
            clear_value hv39
            refine ⟨_, Y.readsV 4 rfl, (Y.capV 4 rfl).2, En.l_one _, ?_⟩
            have Y : Sy _ _ _ [_, _, _, _, _, _, _, _, _, _] := Y.nilS eI 3
            obtain ⟨q_5, T⟩ := T
            refine ⟨_, Y.ownS 9 rfl, (allc (Y.nJ 9 8 rfl rfl rfl) (allc (Y.nJ 9 6 rfl rfl rfl) (allc (Y.nJ 9 5 rfl rfl rfl) alln))), by first | exact appB q_5 (by decide) | omega, by first | exact appM q_5 | (simp [maxLen]; omega), ?_⟩
            intro sA3 sC3 hv40 ow fA gA gB
            have Y : Sy _ _ hv40 [_, _, _, _, _, _, _, _, _, _] := Y.appS 9 rfl edgesV2 ow fA gA rfl (by first | rfl | simp)
            intro hv41
            have Y : Sy _ _ hv41 [_, _, _, _, _, _, _, _, _, _, _] := Y.junk _
            clear_value hv41
            obtain ⟨q_6, T⟩ := T
            refine ⟨_, Y.ownS 9 rfl, (allc (Y.nJ 9 10 rfl rfl rfl) (allc (Y.nJ 9 8 rfl rfl rfl) (allc (Y.nJ 9 6 rfl rfl rfl) (allc (Y.nJ 9 5 rfl rfl rfl) alln)))), by first | exact appB q_6 (by decide) | omega, by first | exact appM q_6 | (simp [maxLen]; omega), ?_⟩
            intro sA4 sC4 hv42 ow fA gA gB
            have Y : Sy _ _ hv42 [_, _, _, _, _, _, _, _, _, _, _] := Y.appS 9 rfl ([(-5)] : List Int) ow fA gA rfl rfl
            obtain ⟨q_7, q_8, T⟩ := T
            refine ⟨q_7, (by have := (Y.capS 9 rfl).1; omega), ?_⟩
            try rw [slice0]
            intro hv43
            have Y : Sy _ _ hv43 [_, _, _, _, _, _, _, _, _, _, _, _] := Y.newO _
            clear_value hv43
            have Y : Sy _ _ _ [_, _, _, _, _, _, _, _, _, _, _, _, _] := Y.nilR eI 40 3
            obtain ⟨Iv2, m2, T0, T1⟩ := T
            obtain ⟨B_6, hB_6, YB⟩ := Y.cut [11, 12] [0, 1, 2, 3, 4, 5, 6, 7, 8, 9, 10] rfl
            obtain ⟨F_3, hF_3⟩ := Y.fnO (k := 11) [0, 1] rfl
            obtain ⟨JJ_2, hJJ_2⟩ : ∃ JJ_2 : Nat → List Value → Heap → Prop, JJ_2 = (fun k_2 lz h' => ∃ (turn2 : Int) (cA_3 : Option Addr) (cL_3 cC_3 : Nat) (y_5H : List RowH) (y_5 : List (List Int)) (y_6 : Int), lz = [.int .i64 turn2] ∧ Sy h [] h' ([F_3 [.slice cA_3 cL_3 cC_3, .int .i64 y_6], Ck.rows eI 40 3 cA_3 cL_3 cC_3 y_5H y_5] ++ B_6) ∧ Iv2 turn2 y_5 y_6 ∧ m2 turn2 y_5 y_6 = k_2) := ⟨_, rfl⟩
            refine ⟨fun lz h' => ∃ k_2, JJ_2 k_2 lz h', Lm JJ_2, ?_, ?_⟩
            · subst hJJ_2 hB_6 hF_3
              exact ⟨_, _, _, _, _, _, _, _, rfl, YB, T0, rfl⟩
            · clear YB T0 Y
              intro turn2 hv44 hI
              obtain ⟨k_2, hI, hm_2⟩ := loopIn hI
              subst hJJ_2 hB_6 hF_3
              obtain ⟨turn2, cA_3, cL_3, cC_3, y_5H, y_5, y_6, e, Y, T, rfl⟩ := hI
              cases e
              obtain rfl := Y.lenR 1 rfl
              replace T := T1 turn2 y_5 y_6 T
              have Y : Sy _ _ _ [_, _, _, _, _, _, _, _, _, _, _, _, _] := Y
              refine cnd_imp T (fun T => ?_) (fun T => ?_)
              · refine callX_sy (T _ _ _ _ _ _ _ (((Y.turn 9 rfl To.slmvw).turn 11 rfl (To.slvwT (Int.toNat ((edgesV2.length : Nat) : Int)) (by omega))).pick [9, 11] rfl).hp) (fun _ _ ⟨_, _, p, _⟩ => p.fr) (allc (fun h => by cases h) (allc (fun h => by cases h) (allc (fun h => by cases h) alln))) ?_
                rintro v21 hv45 ⟨ra5, rb6, PP, rfl, T⟩
                have Y : Sy _ _ hv45 [_, _, _, _, _, _, _, _, _, _, _, _, _] := Y.gr PP.fr
                clear PP
                refine ⟨ra5, rb6, rfl, ?_⟩
                refine callX_sy (T _ _ _ _ _ _ _ (((Y.turn 9 rfl To.slmvw).turn 11 rfl (To.slvwT (Int.toNat ((edgesV2.length : Nat) : Int)) (by omega))).pick [9, 11] rfl).hp) (fun _ _ ⟨_, _, _, _, _, p, _⟩ => p.fr) (allc (fun h => by cases h) (allc (fun h => by cases h) (allc (fun h => by cases h) alln))) ?_
                rintro v22 hv46 ⟨raA5, raL5, raC5, ra_6, rb7, PP, rfl, T⟩
                have Y : Sy _ _ hv46 [_, _, _, _, _, _, _, _, _, _, _, _, _, _] := Y.callV PP ⟨rfl, trivial⟩
                clear PP
                obtain rfl := Y.lenS 13 rfl
                refine ⟨_, _, _, rb7, rfl, ?_⟩
                refine callX_sy (T _ _ _ _ _ _ _ (((Y.turn 9 rfl To.slmvw).turn 11 rfl (To.slvwT (Int.toNat ((edgesV2.length : Nat) : Int)) (by omega))).pick [9, 11] rfl).hp) (fun _ _ ⟨_, _, _, _, _, _, p, _⟩ => p.fr) (allc (fun h => by cases h) (allc (fun h => by cases h) (allc (fun h => by cases h) alln))) ?_
                rintro v23 hv47 ⟨raA6, raL6, raC6, raH_2, ra_7, rb8, PP, rfl, T⟩
                have Y : Sy _ _ hv47 [_, _, _, _, _, _, _, _, _, _, _, _, _, _, _] := Y.callV PP ⟨rfl, trivial⟩
                clear PP
                obtain rfl := Y.lenR 14 rfl
                refine ⟨_, _, _, rb8, rfl, ?_⟩
                refine callX_sy (T _ _ _ _ _ _ _ (((Y.turn 9 rfl To.slmvw).turn 11 rfl (To.slvwT (Int.toNat ((edgesV2.length : Nat) : Int)) (by omega))).pick [9, 11] rfl).hp) (fun _ _ ⟨_, _, _, _, _, _, p, _⟩ => p.fr) (allc (fun h => by cases h) (allc (fun h => by cases h) (allc (fun h => by cases h) alln))) ?_
                rintro v24 hv48 ⟨ra6, raA7, raL7, raC7, ra_8, rb9, PP, rfl, T⟩
                have Y : Sy _ _ hv48 [_, _, _, _, _, _, _, _, _, _, _, _, _, _, _, _] := Y.callV PP ⟨rfl, trivial⟩
                clear PP
                obtain rfl := Y.lenS 15 rfl
                refine ⟨ra6, _, _, _, rb9, rfl, ?_⟩
                intro hv49
                have Y : Sy _ _ hv49 [_, _, _, _, _, _, _, _, _, _, _, _, _, _, _, _, _] := Y.junk _
                clear_value hv49
                intro hv50
                have Y : Sy _ _ hv50 [_, _, _, _, _, _, _, _, _, _, _, _, _, _, _, _, _] := ((Y.stJ 16 rfl _ _).stJ 16 rfl _ _)
                clear_value hv50
                obtain ⟨Jv_4, T0, T1⟩ := T
                obtain ⟨B_7, hB_7, _⟩ := Y.cut [] [0, 1, 2, 3, 4, 5, 6, 7, 8, 9, 10, 11, 12, 13, 14, 15, 16] rfl
                intro K3
                have hK3 : ∀  (hv54 : Heap), (Sy h [] hv54 ([] ++ B_7) ∧ Jv_4) → K3 hv54 := by
                  subst hB_7
                  clear T0 Y
                  rintro hv54 ⟨Y, T⟩
                  replace T := T1 T
                  have Y : Sy _ _ _ [_, _, _, _, _, _, _, _, _, _, _, _, _, _, _, _, _] := Y
                  unfold K3
                  exact ⟨_, Y.pick [] rfl, rfl, T⟩
                subst hB_7
                replace T := T0
                clear T0 T1
                refine cnd_imp T (fun T => ?_) (fun T => ?_)
                · exact hK3 _ ⟨Y.pick [0, 1, 2, 3, 4, 5, 6, 7, 8, 9, 10, 11, 12, 13, 14, 15, 16] rfl, T⟩
                · refine cnd_imp T (fun T => ?_) (fun T => ?_)
                  · exact hK3 _ ⟨Y.pick [0, 1, 2, 3, 4, 5, 6, 7, 8, 9, 10, 11, 12, 13, 14, 15, 16] rfl, T⟩
                  · refine cnd_imp T (fun T => ?_) (fun T => ?_)
                    · exact hK3 _ ⟨Y.pick [0, 1, 2, 3, 4, 5, 6, 7, 8, 9, 10, 11, 12, 13, 14, 15, 16] rfl, T⟩
                    · refine cnd_imp T (fun T => ?_) (fun T => ?_)
                      · exact hK3 _ ⟨Y.pick [0, 1, 2, 3, 4, 5, 6, 7, 8, 9, 10, 11, 12, 13, 14, 15, 16] rfl, T⟩
                      · refine cnd_imp T (fun T => ?_) (fun T => ?_)
                        · exact hK3 _ ⟨Y.pick [0, 1, 2, 3, 4, 5, 6, 7, 8, 9, 10, 11, 12, 13, 14, 15, 16] rfl, T⟩
                        · refine callX_sy (T _ _ _ _ _ _ _ (((Y.turn 13 rfl To.slvw).turn 2 rfl To.slvw).pick [13, 2] rfl).hp) (fun _ _ ⟨_, p, _⟩ => p.fr) (allc (fun h => by cases h) (allc (fun h => by cases h) (allc (fun h => by cases h) (allc (fun h => by cases h) alln)))) ?_
                          rintro v25 hv51 ⟨r12, PP, rfl, T⟩
                          have Y : Sy _ _ hv51 [_, _, _, _, _, _, _, _, _, _, _, _, _, _, _, _, _] := Y.gr PP.fr
                          clear PP
                          refine ⟨r12, rfl, ?_⟩
                          refine cnd_imp T (fun T => ?_) (fun T => ?_)
                          · exact hK3 _ ⟨Y.pick [0, 1, 2, 3, 4, 5, 6, 7, 8, 9, 10, 11, 12, 13, 14, 15, 16] rfl, T⟩
                          · refine callX_sy (T _ _ _ _ _ _ _ _ _ (((Y.turn 14 rfl To.rowsv).turn 3 rfl To.rowsv).pick [14, 3] rfl).hp) (fun _ _ ⟨_, p, _⟩ => p.fr) (allc (fun h => by cases h) (allc (fun h => by cases h) (allc (fun h => by cases h) (allc (fun h => by cases h) alln)))) ?_
                            rintro v26 hv52 ⟨r13, PP, rfl, T⟩
                            have Y : Sy _ _ hv52 [_, _, _, _, _, _, _, _, _, _, _, _, _, _, _, _, _] := Y.gr PP.fr
                            clear PP
                            refine ⟨r13, rfl, ?_⟩
                            refine cnd_imp T (fun T => ?_) (fun T => ?_)
                            · exact hK3 _ ⟨Y.pick [0, 1, 2, 3, 4, 5, 6, 7, 8, 9, 10, 11, 12, 13, 14, 15, 16] rfl, T⟩
                            · refine callX_sy (T _ _ _ _ _ _ _ (((Y.turn 15 rfl To.slvw).turn 4 rfl To.slvw).pick [15, 4] rfl).hp) (fun _ _ ⟨_, p, _⟩ => p.fr) (allc (fun h => by cases h) (allc (fun h => by cases h) (allc (fun h => by cases h) (allc (fun h => by cases h) alln)))) ?_
                              rintro v27 hv53 ⟨r14, PP, rfl, T⟩
                              have Y : Sy _ _ hv53 [_, _, _, _, _, _, _, _, _, _, _, _, _, _, _, _, _] := Y.gr PP.fr
                              clear PP
                              refine ⟨r14, rfl, ?_⟩
                              refine cnd_imp T (fun T => ?_) (fun T => ?_)
                              · exact ⟨_, Y.pick [] rfl, rfl, T⟩
                              · intro hv55
                                have Y : Sy _ _ hv55 [_, _, _, _, _, _, _, _, _, _, _, _, _, _, _, _, _, _] := Y.litG eI 40 3 [⟨raA5, ra_6.length, raC5⟩] [ra_6] rfl rfl (by simp [maxLen])
                                have Y : Sy _ _ hv55 [_, _, _, _, _, _, _, _, _, _, _, _, _, _, _, _, _, _] := Y.giveG (P' := Pge 1) 17 13 rfl rfl rfl (i := 0) rfl rfl ge_step
                                have Y : Sy _ _ hv55 [_, _, _, _, _, _, _, _, _, _, _, _, _, _, _, _, _, _] := Y.turn 17 rfl (To.rowsAll (ge_all (Nat.le_refl _)))
                                clear_value hv55
                                refine callX_sy (T _ _ _ _ _ _ _ _ _ _ (Y.pick [0, 1, 17] rfl).hp) (fun _ _ ⟨_, _, _, _, _, _, p, _⟩ => p.fr) (allc (Y.nO 16 [0, 1, 17] rfl rfl) (allc (Y.nO 7 [0, 1, 17] rfl rfl) (allc (Y.nO 8 [0, 1, 17] rfl rfl) (allc (Y.nO 10 [0, 1, 17] rfl rfl) alln)))) ?_
                                rintro v28 hv56 ⟨lVA2_4, lVL2_4, lVC2_4, lH2_3, lV1_4, sizeV2_4, PP, rfl, T⟩
                                have Y : Sy _ _ hv56 [_, _, _, _, _, _, _, _, _, _, _, _, _, _, _, _, _] := Y.call2 [0, 1, 17, 2, 3, 4, 5, 6, 7, 8, 9, 10, 11, 12, 13, 14, 15, 16] rfl (A := [_, _, _]) rfl rfl PP ⟨rfl, ⟨rfl, trivial⟩⟩
                                clear PP
                                obtain rfl := Y.lenR 1 rfl
                                refine ⟨rfl, ?_⟩
                                refine callX_sy (T _ _ _ _ _ _ _ _ _ _ (Y.pick [0, 1, 14] rfl).hp) (fun _ _ ⟨_, _, _, _, _, _, p, _⟩ => p.fr) (allc (Y.nO 16 [0, 1, 14] rfl rfl) (allc (Y.nO 7 [0, 1, 14] rfl rfl) (allc (Y.nO 8 [0, 1, 14] rfl rfl) (allc (Y.nO 10 [0, 1, 14] rfl rfl) alln)))) ?_
                                rintro v29 hv57 ⟨lVA2_5, lVL2_5, lVC2_5, lH3_2, lV1_5, sizeV2_5, PP, rfl, T⟩
                                have Y : Sy _ _ hv57 [_, _, _, _, _, _, _, _, _, _, _, _, _, _, _, _] := Y.call2 [0, 1, 14, 2, 3, 4, 5, 6, 7, 8, 9, 10, 11, 12, 13, 15, 16] rfl (A := [_, _, _]) rfl rfl PP ⟨rfl, ⟨rfl, trivial⟩⟩
                                clear PP
                                obtain rfl := Y.lenR 1 rfl
                                refine ⟨rfl, ?_⟩
                                refine callX_sy (T _ _ _ _ (Y.pick [14] rfl).hp) (fun _ _ ⟨p, _⟩ => p.fr) (allc (Y.nO 15 [14] rfl rfl) (allc (Y.nO 7 [14] rfl rfl) (allc (Y.nO 8 [14] rfl rfl) (allc (Y.nO 10 [14] rfl rfl) alln)))) ?_
                                rintro v30 hv58 ⟨PP, rfl, T⟩
                                have Y : Sy _ _ hv58 [_, _, _, _, _, _, _, _, _, _, _, _, _, _, _] := Y.call2 [14, 0, 1, 2, 3, 4, 5, 6, 7, 8, 9, 10, 11, 12, 13, 15] rfl (A := [_]) rfl rfl PP trivial
                                clear PP
                                refine ⟨rfl, ?_⟩
                                exact loopBack hm_2 ⟨_, _, _, _, _, _, _, rfl, Y.pick [0, 1, 2, 3, 4, 5, 6, 7, 8, 9, 10, 11, 12] rfl, T.1, rfl⟩ T.2
              · obtain ⟨Jv_5, T0, T1⟩ := T
                obtain ⟨B_8, hB_8, _⟩ := Y.cut [] [2, 3, 4, 5, 6, 7, 8, 9, 10, 11, 12] rfl
                obtain ⟨F_4, hF_4⟩ := Y.fnO (k := 0) [0, 1] rfl
                intro K4
                have hK4 : ∀  (hv62 : Heap), (∃ (cA_4 : Option Addr) (cL_4 cC_4 : Nat) (y_7H : List RowH) (y_7 : List (List Int)) (y_8 : Int), Sy h [] hv62 ([F_4 [.slice cA_4 cL_4 cC_4, .int .i64 y_8], Ck.rows eI 40 3 cA_4 cL_4 cC_4 y_7H y_7] ++ B_8) ∧ Jv_5 y_7 y_8) → K4 hv62 := by
                  subst hB_8 hF_4
                  clear T0 Y
                  rintro hv62 ⟨cA_4, cL_4, cC_4, y_7H, y_7, y_8, Y, T⟩
                  obtain rfl := Y.lenR 1 rfl
                  replace T := T1 y_7 y_8 T
                  have Y : Sy _ _ _ [_, _, _, _, _, _, _, _, _, _, _, _, _] := Y
                  unfold K4
                  exact ⟨_, Y.pick [] rfl, rfl, T⟩
                subst hB_8 hF_4
                replace T := T0
                clear T0 T1
                refine callX_sy (T _ _ _ _ _ _ (Y.pick [0, 1] rfl).hp) (fun _ _ ⟨_, _, _, _, _, _, _, p, _⟩ => p.fr) (allc (Y.nO 7 [0, 1] rfl rfl) (allc (Y.nO 8 [0, 1] rfl rfl) (allc (Y.nO 10 [0, 1] rfl rfl) alln))) ?_
                rintro v31 hv59 ⟨lVA2_6, lVL2_6, lVC2_6, lH2_4, lV1_6, sizeV2_6, r15, PP, rfl, T⟩
                have Y : Sy _ _ hv59 [_, _, _, _, _, _, _, _, _, _, _, _, _] := Y.call2 [0, 1, 2, 3, 4, 5, 6, 7, 8, 9, 10, 11, 12] rfl (A := [_, _]) rfl rfl PP ⟨rfl, ⟨rfl, trivial⟩⟩
                clear PP
                obtain rfl := Y.lenR 1 rfl
                refine ⟨r15, rfl, ?_⟩
                refine cnd_imp T (fun T => ?_) (fun T => ?_)
                · refine callX_sy (T _ _ _ _ _ _ _ ((Y.turn 9 rfl To.slmvwm).pick [9, 5] rfl).hp) (fun _ _ ⟨_, p, _⟩ => p.fr) (allc (fun h => by cases h) (allc (fun h => by cases h) (allc (fun h => by cases h) alln))) ?_
                  rintro v32 hv60 ⟨r16, PP, rfl, T⟩
                  have Y : Sy _ _ hv60 [_, _, _, _, _, _, _, _, _, _, _, _, _] := Y.gr PP.fr
                  clear PP
                  refine ⟨r16, rfl, ?_⟩
                  refine cnd_imp T (fun T => ?_) (fun T => ?_)
                  · refine callX_sy (T _ _ _ _ _ _ _ ((Y.turn 11 rfl (To.slvwT (Int.toNat ((edgesV2.length : Nat) : Int)) (by omega))).pick [11, 6] rfl).hp) (fun _ _ ⟨_, p, _⟩ => p.fr) (allc (fun h => by cases h) (allc (fun h => by cases h) (allc (fun h => by cases h) alln))) ?_
                    rintro v33 hv61 ⟨r17, PP, rfl, T⟩
                    have Y : Sy _ _ hv61 [_, _, _, _, _, _, _, _, _, _, _, _, _] := Y.gr PP.fr
                    clear PP
                    refine ⟨r17, rfl, ?_⟩
                    exact ⟨_, Y.pick [] rfl, rfl, T⟩
                  · exact hK4 _ ⟨_, _, _, _, _, _, Y.pick [0, 1, 2, 3, 4, 5, 6, 7, 8, 9, 10, 11, 12] rfl, T⟩
                · exact hK4 _ ⟨_, _, _, _, _, _, Y.pick [0, 1, 2, 3, 4, 5, 6, 7, 8, 9, 10, 11, 12] rfl, T⟩
end Go.Proofs.Ytmcloipjlihhlaa.N
