/- Functions: what is left to be shown of each, over memory and without: printed by program, tied to the loaded functions by the kernel. Conditions: none. -/
import Derived.Test.YtmcloipjlihhlaaSEnv
import Derived.Test.YtmcloipjlihhlaaYMore
import Derived.Test.YtmcloipjlihhlaaTWalk2
namespace Go.Proofs.Ytmcloipjlihhlaa.N
open Go.Proofs.Ytmcloipjlihhlaa
open Go.X
set_option maxRecDepth 100000
set_option linter.unusedVariables false
set_option linter.unusedSimpArgs false
set_option maxHeartbeats 2000000

/-- tracery/traceryref6.Breadth -/
def S84 (g : Int) (gA : Option Addr) (gL gC : Nat) (s : Int) (h : Heap) (R : Value → Heap → Prop) : Prop :=
  let hv : Heap := h.push (.cells #[.int .i64 g, .slice gA gL gC] 26)
  let hv2 : Heap := hv.push (.cells #[.slice none 0 0, .slice none 0 0, .slice none 0 0, .slice none 0 0] 113)
  let K := fun (p : Nat) (xA : Option Addr) (xL xC : Nat) (xA2 : Option Addr) (xL2 xC2 : Nat) (xA3 : Option Addr) (xL3 xC3 : Nat) (hv37 : Heap) =>
    (let hv38 : Heap := hset (hset (hset (hset hv37 p 0 (.slice xA xL xC)) p (0 + 1) (.slice xA2 xL2 xC2)) p ((0 + 1) + 1) (.slice xA3 xL3 xC3)) p (((0 + 1) + 1) + 1) (.slice none 0 0)
    ∃ b o, xA3 = some ⟨b, o, none⟩ ∧ 0 ≤ s ∧ s < (xL3 : Nat) ∧ b ≠ p ∧ b ≠ hv.size ∧ b ≠ h.size ∧ (∃ u, hcell hv38 b (o + (Int.toNat s) * 1) = some u) ∧ hfree hv38 b (o + (Int.toNat s) * 1) = true ∧ let hv39 : Heap := hset hv38 b (o + (Int.toNat s) * 1) (.int .i64 0)
    callX Try.prog 54 #[.agg #[.int .i64 g, .slice gA gL gC]] hv39 [p, hv.size, h.size] fun v17 hv40 =>
    ∃ (rA17 : Option Addr) (rL17 rC17 : Nat), v17 = .slice rA17 rL17 rC17 ∧
    ∃ (Iv : List Value → Heap → Prop) (m : List Value → Heap → Nat), Iv [.int .i64 0, .slice xA xL xC, .slice xA2 xL2 xC2, .slice xA3 xL3 xC3, .slice none 0 0] hv40 ∧ -- loop 0: ['i']
    ∀ i : Int, ∀ (c0A : Option Addr) (c0L c0C : Nat), ∀ (c1A : Option Addr) (c1L c1C : Nat), ∀ (c2A : Option Addr) (c2L c2C : Nat), ∀ (c3A : Option Addr) (c3L c3C : Nat), ∀ hv41, Iv [.int .i64 i, .slice c0A c0L c0C, .slice c1A c1L c1C, .slice c2A c2L c2C, .slice c3A c3L c3C] hv41 →
    cnd (decide (i < ((c0L : Nat) : Int)))
      (∃ b2 o2, c0A = some ⟨b2, o2, none⟩ ∧ 0 ≤ i ∧ i < (c0L : Nat) ∧ ∃ x : Int, hcell hv41 b2 (o2 + (Int.toNat i) * 1) = some (.int .i64 x) ∧ ∃ (Iv2 : List Value → Heap → Prop) (m2 : List Value → Heap → Nat), Iv2 [.int .i64 0, .slice c0A c0L c0C, .slice c1A c1L c1C, .slice c2A c2L c2C, .slice c3A c3L c3C] hv41 ∧ -- loop 2: ['k']
      ∀ k : Int, ∀ (c0A2 : Option Addr) (c0L2 c0C2 : Nat), ∀ (c1A2 : Option Addr) (c1L2 c1C2 : Nat), ∀ (c2A2 : Option Addr) (c2L2 c2C2 : Nat), ∀ (c3A2 : Option Addr) (c3L2 c3C2 : Nat), ∀ hv42, Iv2 [.int .i64 k, .slice c0A2 c0L2 c0C2, .slice c1A2 c1L2 c1C2, .slice c2A2 c2L2 c2C2, .slice c3A2 c3L2 c3C2] hv42 →
      ∃ b3 o3, rA17 = some ⟨b3, o3, none⟩ ∧ 0 ≤ x ∧ x < (rL17 : Nat) ∧ ∃ (xA4 : Option Addr) (xL4 xC4 : Nat), hcell hv42 b3 (o3 + (Int.toNat x) * 1) = some (.slice xA4 xL4 xC4) ∧ cnd (decide (k < ((xL4 : Nat) : Int)))
        (∃ b4 o4, rA17 = some ⟨b4, o4, none⟩ ∧ 0 ≤ x ∧ x < (rL17 : Nat) ∧ ∃ (xA5 : Option Addr) (xL5 xC5 : Nat), hcell hv42 b4 (o4 + (Int.toNat x) * 1) = some (.slice xA5 xL5 xC5) ∧ ∃ b5 o5, xA5 = some ⟨b5, o5, none⟩ ∧ 0 ≤ k ∧ k < (xL5 : Nat) ∧ ∃ x2 : Int, hcell hv42 b5 (o5 + (Int.toNat k) * 1) = some (.int .i64 x2) ∧ callX Try.prog 55 #[.agg #[.int .i64 g, .slice gA gL gC], .int .i64 x2] hv42 [p, h.size, hv.size] fun v18 hv43 =>
        ∃ r : Int, v18 = .int .i64 r ∧
        Fr [] hv42 hv43 ∧
        ∃ b6 o6, c2A2 = some ⟨b6, o6, none⟩ ∧ 0 ≤ r ∧ r < (c2L2 : Nat) ∧ ∃ x3 : Int, hcell hv43 b6 (o6 + (Int.toNat r) * 1) = some (.int .i64 x3) ∧ ∃ Jv : List Value → Heap → Prop, -- join 61 []
        ( cnd (decide (x3 < (0 : Int)))
           (∃ b7 o7, c2A2 = some ⟨b7, o7, none⟩ ∧ 0 ≤ x ∧ x < (c2L2 : Nat) ∧ ∃ x4 : Int, hcell hv43 b7 (o7 + (Int.toNat x) * 1) = some (.int .i64 x4) ∧ ∃ b8 o8, c2A2 = some ⟨b8, o8, none⟩ ∧ 0 ≤ r ∧ r < (c2L2 : Nat) ∧ b8 ≠ p ∧ b8 ≠ h.size ∧ b8 ≠ hv.size ∧ (∃ u, hcell hv43 b8 (o8 + (Int.toNat r) * 1) = some u) ∧ hfree hv43 b8 (o8 + (Int.toNat r) * 1) = true ∧ let hv44 : Heap := hset hv43 b8 (o8 + (Int.toNat r) * 1) (.int .i64 (IntKind.i64.wrap (x4 + (1 : Int))))
           ∃ b9 o9, rA17 = some ⟨b9, o9, none⟩ ∧ 0 ≤ x ∧ x < (rL17 : Nat) ∧ ∃ (xA6 : Option Addr) (xL6 xC6 : Nat), hcell hv44 b9 (o9 + (Int.toNat x) * 1) = some (.slice xA6 xL6 xC6) ∧ ∃ b10 o10, xA6 = some ⟨b10, o10, none⟩ ∧ 0 ≤ k ∧ k < (xL6 : Nat) ∧ ∃ x5 : Int, hcell hv44 b10 (o10 + (Int.toNat k) * 1) = some (.int .i64 x5) ∧ ∃ b11 o11, c1A2 = some ⟨b11, o11, none⟩ ∧ 0 ≤ r ∧ r < (c1L2 : Nat) ∧ b11 ≠ p ∧ b11 ≠ h.size ∧ b11 ≠ hv.size ∧ (∃ u, hcell hv44 b11 (o11 + (Int.toNat r) * 1) = some u) ∧ hfree hv44 b11 (o11 + (Int.toNat r) * 1) = true ∧ let hv45 : Heap := hset hv44 b11 (o11 + (Int.toNat r) * 1) (.int .i64 x5)
           let hv46 : Heap := hv45.push (.cells #[.int .i64 r] 3)
           ∃ old, Ownd hv46 3 1 c0A2 c0L2 c0C2 old ∧ (∀ b ∈ ([hv45.size, p, h.size, hv.size] : List Nat), b ∉ blkOf c0A2) ∧ (c0L2 + 1) * 8 ≤ 140737488355328 ∧ (c0L2 + 1) ≤ maxLen ∧
           ∀ sA sC hv47, Ownd hv47 3 1 sA (c0L2 + 1) sC (old ++ [.int .i64 r]) → Fr (blkOf c0A2) hv46 hv47 → ((sA = c0A2 ∧ sC = c0C2) ∨ ∃ g, sA = some ⟨g, 0, none⟩ ∧ hv46.size ≤ g) → (c0C2 < (c0L2 + 1) → Fr [] hv46 hv47) →
           let hv48 : Heap := hset hv47 p 0 (.slice sA (c0L2 + 1) sC)
           Jv [.slice sA (c0L2 + 1) sC, .slice c1A2 c1L2 c1C2, .slice c2A2 c2L2 c2C2, .slice c3A2 c3L2 c3C2] hv48)
           (Jv [.slice c0A2 c0L2 c0C2, .slice c1A2 c1L2 c1C2, .slice c2A2 c2L2 c2C2, .slice c3A2 c3L2 c3C2] hv43)) ∧
        ∀ (c0A3 : Option Addr) (c0L3 c0C3 : Nat), ∀ (c1A3 : Option Addr) (c1L3 c1C3 : Nat), ∀ (c2A3 : Option Addr) (c2L3 c2C3 : Nat), ∀ (c3A3 : Option Addr) (c3L3 c3C3 : Nat), ∀ hv49, Jv [.slice c0A3 c0L3 c0C3, .slice c1A3 c1L3 c1C3, .slice c2A3 c2L3 c2C3, .slice c3A3 c3L3 c3C3] hv49 →
        Iv2 [.int .i64 (IntKind.i64.wrap (k + (1 : Int))), .slice c0A3 c0L3 c0C3, .slice c1A3 c1L3 c1C3, .slice c2A3 c2L3 c2C3, .slice c3A3 c3L3 c3C3] hv49 ∧ m2 [.int .i64 (IntKind.i64.wrap (k + (1 : Int))), .slice c0A3 c0L3 c0C3, .slice c1A3 c1L3 c1C3, .slice c2A3 c2L3 c2C3, .slice c3A3 c3L3 c3C3] hv49 < m2 [.int .i64 k, .slice c0A2 c0L2 c0C2, .slice c1A2 c1L2 c1C2, .slice c2A2 c2L2 c2C2, .slice c3A2 c3L2 c3C2] hv42)
        (Iv [.int .i64 (IntKind.i64.wrap (i + (1 : Int))), .slice c0A2 c0L2 c0C2, .slice c1A2 c1L2 c1C2, .slice c2A2 c2L2 c2C2, .slice c3A2 c3L2 c3C2] hv42 ∧ m [.int .i64 (IntKind.i64.wrap (i + (1 : Int))), .slice c0A2 c0L2 c0C2, .slice c1A2 c1L2 c1C2, .slice c2A2 c2L2 c2C2, .slice c3A2 c3L2 c3C2] hv42 < m [.int .i64 i, .slice c0A c0L c0C, .slice c1A c1L c1C, .slice c2A c2L c2C, .slice c3A c3L c3C] hv41))
      (let hv50 : Heap := hset (hset (hset (hset hv41 hv.size 0 (.slice c0A c0L c0C)) hv.size (0 + 1) (.slice c1A c1L c1C)) hv.size ((0 + 1) + 1) (.slice c2A c2L c2C)) hv.size (((0 + 1) + 1) + 1) (.slice c3A c3L c3C)
      R (.agg #[.slice c0A c0L c0C, .slice c1A c1L c1C, .slice c2A c2L c2C, .slice c3A c3L c3C]) hv50))
  (let hv3 : Heap := hv2.push (.cells #[.int .i64 s] 3)
  Fr [] hv2 hv3 ∧
  (callX Try.prog 127 #[.int .i64 g, .int .i64 (-1)] hv3 [hv.size, h.size] fun v hv4 =>
  ∃ (rA : Option Addr) (rL rC : Nat), v = .slice rA rL rC ∧
  Fr [] hv2 hv4 ∧
  (callX Try.prog 127 #[.int .i64 g, .int .i64 (-1)] hv4 [hv.size, h.size] fun v2 hv5 =>
  ∃ (rA2 : Option Addr) (rL2 rC2 : Nat), v2 = .slice rA2 rL2 rC2 ∧
  Fr [] hv2 hv5 ∧
  let hv6 : Heap := hv5.push (.cells #[.slice none 0 0, .slice none 0 0, .slice none 0 0, .slice none 0 0] 113)
  Fr [] hv2 hv6 ∧
  K hv5.size (some (⟨hv2.size, 0, none⟩ : Addr)) 1 1 rA rL rC rA2 rL2 rC2 hv6)
  ∧ ( let hv7 : Heap := hv4.push (.cells #[.slice none 0 0, .slice none 0 0, .slice none 0 0, .slice none 0 0] 113)
   Fr [] hv2 hv7 ∧
   callX Try.prog 127 #[.int .i64 g, .int .i64 (-1)] hv7 [hv4.size, hv.size, h.size] fun v3 hv8 =>
   ∃ (rA3 : Option Addr) (rL3 rC3 : Nat), v3 = .slice rA3 rL3 rC3 ∧
   Fr [] hv2 hv8 ∧
   K hv4.size (some (⟨hv2.size, 0, none⟩ : Addr)) 1 1 rA rL rC rA3 rL3 rC3 hv8))
  ∧ ( let hv9 : Heap := hv3.push (.cells #[.slice none 0 0, .slice none 0 0, .slice none 0 0, .slice none 0 0] 113)
   Fr [] hv2 hv9 ∧
   callX Try.prog 127 #[.int .i64 g, .int .i64 (-1)] hv9 [hv3.size, hv.size, h.size] fun v4 hv10 =>
   ∃ (rA4 : Option Addr) (rL4 rC4 : Nat), v4 = .slice rA4 rL4 rC4 ∧
   Fr [] hv2 hv10 ∧
   callX Try.prog 127 #[.int .i64 g, .int .i64 (-1)] hv10 [hv3.size, hv.size, h.size] fun v5 hv11 =>
   ∃ (rA5 : Option Addr) (rL5 rC5 : Nat), v5 = .slice rA5 rL5 rC5 ∧
   Fr [] hv2 hv11 ∧
   K hv3.size (some (⟨hv2.size, 0, none⟩ : Addr)) 1 1 rA4 rL4 rC4 rA5 rL5 rC5 hv11))
  ∧ (callX Try.prog 127 #[.int .i64 g, .int .i64 (-1)] hv2 [hv.size, h.size] fun v6 hv12 =>
  ∃ (rA6 : Option Addr) (rL6 rC6 : Nat), v6 = .slice rA6 rL6 rC6 ∧
  Fr [] hv2 hv12 ∧
  (let hv13 : Heap := hv12.push (.cells #[.int .i64 s] 3)
  Fr [] hv2 hv13 ∧
  (callX Try.prog 127 #[.int .i64 g, .int .i64 (-1)] hv13 [hv.size, h.size] fun v7 hv14 =>
  ∃ (rA7 : Option Addr) (rL7 rC7 : Nat), v7 = .slice rA7 rL7 rC7 ∧
  Fr [] hv2 hv14 ∧
  let hv15 : Heap := hv14.push (.cells #[.slice none 0 0, .slice none 0 0, .slice none 0 0, .slice none 0 0] 113)
  Fr [] hv2 hv15 ∧
  K hv14.size (some (⟨hv12.size, 0, none⟩ : Addr)) 1 1 rA6 rL6 rC6 rA7 rL7 rC7 hv15)
  ∧ ( let hv16 : Heap := hv13.push (.cells #[.slice none 0 0, .slice none 0 0, .slice none 0 0, .slice none 0 0] 113)
   Fr [] hv2 hv16 ∧
   callX Try.prog 127 #[.int .i64 g, .int .i64 (-1)] hv16 [hv13.size, hv.size, h.size] fun v8 hv17 =>
   ∃ (rA8 : Option Addr) (rL8 rC8 : Nat), v8 = .slice rA8 rL8 rC8 ∧
   Fr [] hv2 hv17 ∧
   K hv13.size (some (⟨hv12.size, 0, none⟩ : Addr)) 1 1 rA6 rL6 rC6 rA8 rL8 rC8 hv17))
  ∧ (callX Try.prog 127 #[.int .i64 g, .int .i64 (-1)] hv12 [hv.size, h.size] fun v9 hv18 =>
  ∃ (rA9 : Option Addr) (rL9 rC9 : Nat), v9 = .slice rA9 rL9 rC9 ∧
  Fr [] hv2 hv18 ∧
  (let hv19 : Heap := hv18.push (.cells #[.int .i64 s] 3)
  Fr [] hv2 hv19 ∧
  let hv20 : Heap := hv19.push (.cells #[.slice none 0 0, .slice none 0 0, .slice none 0 0, .slice none 0 0] 113)
  Fr [] hv2 hv20 ∧
  K hv19.size (some (⟨hv18.size, 0, none⟩ : Addr)) 1 1 rA6 rL6 rC6 rA9 rL9 rC9 hv20)
  ∧ ( let hv21 : Heap := hv18.push (.cells #[.slice none 0 0, .slice none 0 0, .slice none 0 0, .slice none 0 0] 113)
   Fr [] hv2 hv21 ∧
   let hv22 : Heap := hv21.push (.cells #[.int .i64 s] 3)
   Fr [] hv2 hv22 ∧
   K hv18.size (some (⟨hv21.size, 0, none⟩ : Addr)) 1 1 rA6 rL6 rC6 rA9 rL9 rC9 hv22))
  ∧ ( let hv23 : Heap := hv12.push (.cells #[.slice none 0 0, .slice none 0 0, .slice none 0 0, .slice none 0 0] 113)
   Fr [] hv2 hv23 ∧
   (let hv24 : Heap := hv23.push (.cells #[.int .i64 s] 3)
   Fr [] hv2 hv24 ∧
   callX Try.prog 127 #[.int .i64 g, .int .i64 (-1)] hv24 [hv12.size, hv.size, h.size] fun v10 hv25 =>
   ∃ (rA10 : Option Addr) (rL10 rC10 : Nat), v10 = .slice rA10 rL10 rC10 ∧
   Fr [] hv2 hv25 ∧
   K hv12.size (some (⟨hv23.size, 0, none⟩ : Addr)) 1 1 rA6 rL6 rC6 rA10 rL10 rC10 hv25)
   ∧ ( callX Try.prog 127 #[.int .i64 g, .int .i64 (-1)] hv23 [hv12.size, hv.size, h.size] fun v11 hv26 =>
    ∃ (rA11 : Option Addr) (rL11 rC11 : Nat), v11 = .slice rA11 rL11 rC11 ∧
    Fr [] hv2 hv26 ∧
    let hv27 : Heap := hv26.push (.cells #[.int .i64 s] 3)
    Fr [] hv2 hv27 ∧
    K hv12.size (some (⟨hv26.size, 0, none⟩ : Addr)) 1 1 rA6 rL6 rC6 rA11 rL11 rC11 hv27)))
  ∧ ( let hv28 : Heap := hv2.push (.cells #[.slice none 0 0, .slice none 0 0, .slice none 0 0, .slice none 0 0] 113)
   Fr [] hv2 hv28 ∧
   (let hv29 : Heap := hv28.push (.cells #[.int .i64 s] 3)
   Fr [] hv2 hv29 ∧
   callX Try.prog 127 #[.int .i64 g, .int .i64 (-1)] hv29 [hv2.size, hv.size, h.size] fun v12 hv30 =>
   ∃ (rA12 : Option Addr) (rL12 rC12 : Nat), v12 = .slice rA12 rL12 rC12 ∧
   Fr [] hv2 hv30 ∧
   callX Try.prog 127 #[.int .i64 g, .int .i64 (-1)] hv30 [hv2.size, hv.size, h.size] fun v13 hv31 =>
   ∃ (rA13 : Option Addr) (rL13 rC13 : Nat), v13 = .slice rA13 rL13 rC13 ∧
   Fr [] hv2 hv31 ∧
   K hv2.size (some (⟨hv28.size, 0, none⟩ : Addr)) 1 1 rA12 rL12 rC12 rA13 rL13 rC13 hv31)
   ∧ ( callX Try.prog 127 #[.int .i64 g, .int .i64 (-1)] hv28 [hv2.size, hv.size, h.size] fun v14 hv32 =>
    ∃ (rA14 : Option Addr) (rL14 rC14 : Nat), v14 = .slice rA14 rL14 rC14 ∧
    Fr [] hv2 hv32 ∧
    (let hv33 : Heap := hv32.push (.cells #[.int .i64 s] 3)
    Fr [] hv2 hv33 ∧
    callX Try.prog 127 #[.int .i64 g, .int .i64 (-1)] hv33 [hv2.size, hv.size, h.size] fun v15 hv34 =>
    ∃ (rA15 : Option Addr) (rL15 rC15 : Nat), v15 = .slice rA15 rL15 rC15 ∧
    Fr [] hv2 hv34 ∧
    K hv2.size (some (⟨hv32.size, 0, none⟩ : Addr)) 1 1 rA14 rL14 rC14 rA15 rL15 rC15 hv34)
    ∧ ( callX Try.prog 127 #[.int .i64 g, .int .i64 (-1)] hv32 [hv2.size, hv.size, h.size] fun v16 hv35 =>
     ∃ (rA16 : Option Addr) (rL16 rC16 : Nat), v16 = .slice rA16 rL16 rC16 ∧
     Fr [] hv2 hv35 ∧
     let hv36 : Heap := hv35.push (.cells #[.int .i64 s] 3)
     Fr [] hv2 hv36 ∧
     K hv2.size (some (⟨hv35.size, 0, none⟩ : Addr)) 1 1 rA14 rL14 rC14 rA16 rL16 rC16 hv36)))
theorem calls84 {h : Heap} {R : Value → Heap → Prop} (g : Int) (gA : Option Addr) (gL gC : Nat) (s : Int) (H : S84 g gA gL gC s h R) : CallsH Try.prog 84 #[.agg #[.int .i64 g, .slice gA gL gC], .int .i64 s] h R := by
  have e : S84 g gA gL gC s h R = FX (envX [2, 4, 5, 86] 90) { loops := [(0, ⟨[2, 4, 5, 6], [7], [2, 4], [5]⟩), (2, ⟨[2, 4, 5, 6, 7, 8], [9], [2, 4], [5]⟩)], joins := [(61, ⟨[2, 4, 5, 6, 7, 8, 9], [], [2, 4], [5]⟩)], blocks := [], draws := [(1, ⟨10, false⟩), (11, ⟨10, false⟩), (13, ⟨10, false⟩), (14, ⟨11, false⟩)] } Try.f84 (Try.f84.body.getD .skip) [.agg #[.int .i64 g, .slice gA gL gC], .int .i64 s] h R := by kernel_rfl
  exact calls_of_FX (envX_ok _ _) Try.func84 (by kernel_rfl) (by kernel_rfl) (by kernel_rfl) (e ▸ H)
/-- tracery/traceryref6.Breadth -/
def Ok84 (g : Int) (edgesV : List (Int × Int)) (s : Int) (R : List Int → List Int → List Int → List Int → Prop) : Prop :=
  ∀ (h : Heap) (gA : Option Addr) (gL gC : Nat), Hp h [Ck.vw eP gA gL gC edgesV] → CallsH Try.prog 84 #[.agg #[.int .i64 g, .slice gA gL gC], .int .i64 s] h fun v h' => ∃ (orderVA : Option Addr) (orderVL orderVC : Nat) (orderV : List Int) (byVA : Option Addr) (byVL byVC : Nat) (byV : List Int) (farVA : Option Addr) (farVL farVC : Nat) (farV : List Int) (lowVA : Option Addr) (lowVL lowVC : Nat) (lowV : List Int), Sy h [] h' [Ck.sl eI 3 orderVA orderVL orderVC orderV, Ck.sl eI 3 byVA byVL byVC byV, Ck.sl eI 3 farVA farVL farVC farV, Ck.sl eI 3 lowVA lowVL lowVC lowV] ∧ v = .agg #[.slice orderVA orderVL orderVC, .slice byVA byVL byVC, .slice farVA farVL farVC, .slice lowVA lowVL lowVC] ∧ R orderV byV farV lowV
theorem Ok84.mono {g edgesV s} {R R' : List Int → List Int → List Int → List Int → Prop} (H : Ok84 g edgesV s R) (kz : ∀ orderV byV farV lowV, R orderV byV farV lowV → R' orderV byV farV lowV) : Ok84 g edgesV s R' :=
  fun h gA gL gC hp => (H h gA gL gC hp).mono fun _ _ ⟨orderVA, orderVL, orderVC, orderV, byVA, byVL, byVC, byV, farVA, farVL, farVC, farV, lowVA, lowVL, lowVC, lowV, P, e, q⟩ => ⟨orderVA, orderVL, orderVC, orderV, byVA, byVL, byVC, byV, farVA, farVL, farVC, farV, lowVA, lowVL, lowVC, lowV, P, e, kz _ _ _ _ q⟩
def T84 (g : Int) (edgesV : List (Int × Int)) (s : Int) (R : List Int → List Int → List Int → List Int → Prop) : Prop :=
  ∃ Jv_2 : List Int → List Int → List Int → Prop,
  ( Ok127 g (-1) (fun r_7 =>
   Ok127 g (-1) (fun r_8 =>
   Jv_2 ([s] : List Int) r_7 r_8))) ∧
  ∀ x_2 : List Int, ∀ x_3 : List Int, ∀ x_4 : List Int, Jv_2 x_2 x_3 x_4 →
  0 ≤ s ∧ s < ((x_4.length : Nat) : Int) ∧ Ok54 g edgesV (fun r_2 =>
  ∃ (Iv : Int → List Int → List Int → List Int → List Int → Prop) (m : Int → List Int → List Int → List Int → List Int → Nat), Iv 0 x_2 x_3 (x_4.set (Int.toNat s) 0) ([] : List Int) ∧
  ∀ i : Int, ∀ c0 : List Int, ∀ c1 : List Int, ∀ c2 : List Int, ∀ c3 : List Int, Iv i c0 c1 c2 c3 →
  cnd (decide (i < ((c0.length : Nat) : Int)))
    (0 ≤ i ∧ i < ((c0.length : Nat) : Int) ∧ ∀ c : Int, c0[(Int.toNat i)]? = some c → ∃ (Iv2 : Int → List Int → List Int → List Int → List Int → Prop) (m2 : Int → List Int → List Int → List Int → List Int → Nat), Iv2 0 c0 c1 c2 c3 ∧
    ∀ k : Int, ∀ c0_2 : List Int, ∀ c1_2 : List Int, ∀ c2_2 : List Int, ∀ c3_2 : List Int, Iv2 k c0_2 c1_2 c2_2 c3_2 →
    0 ≤ c ∧ c < ((r_2.length : Nat) : Int) ∧ ∀ r_3 : List Int, r_2[(Int.toNat c)]? = some r_3 → cnd (decide (k < ((r_3.length : Nat) : Int)))
      (0 ≤ c ∧ c < ((r_2.length : Nat) : Int) ∧ ∀ r_5 : List Int, r_2[(Int.toNat c)]? = some r_5 → 0 ≤ k ∧ k < ((r_5.length : Nat) : Int) ∧ ∀ x_6 : Int, r_5[(Int.toNat k)]? = some x_6 → Ok55 g edgesV x_6 (fun r =>
      0 ≤ r ∧ r < ((c2_2.length : Nat) : Int) ∧ ∀ c_2 : Int, c2_2[(Int.toNat r)]? = some c_2 → ∃ Jv : List Int → List Int → List Int → List Int → Prop,
      ( cnd (decide (c_2 < (0 : Int)))
         (0 ≤ c ∧ c < ((c2_2.length : Nat) : Int) ∧ ∀ c_3 : Int, c2_2[(Int.toNat c)]? = some c_3 → 0 ≤ r ∧ r < ((c2_2.length : Nat) : Int) ∧ 0 ≤ r ∧ r < ((c1_2.length : Nat) : Int) ∧ (c0_2.length + 1) < 1000000000000 ∧ Jv (c0_2 ++ [r]) (c1_2.set (Int.toNat r) x_6) (c2_2.set (Int.toNat r) (IntKind.i64.wrap (c_3 + (1 : Int)))) c3_2)
         (Jv c0_2 c1_2 c2_2 c3_2)) ∧
      ∀ c0_3 : List Int, ∀ c1_3 : List Int, ∀ c2_3 : List Int, ∀ c3_3 : List Int, Jv c0_3 c1_3 c2_3 c3_3 →
      Iv2 (IntKind.i64.wrap (k + (1 : Int))) c0_3 c1_3 c2_3 c3_3 ∧ m2 (IntKind.i64.wrap (k + (1 : Int))) c0_3 c1_3 c2_3 c3_3 < m2 k c0_2 c1_2 c2_2 c3_2))
      (Iv (IntKind.i64.wrap (i + (1 : Int))) c0_2 c1_2 c2_2 c3_2 ∧ m (IntKind.i64.wrap (i + (1 : Int))) c0_2 c1_2 c2_2 c3_2 < m i c0 c1 c2 c3))
    (R c0 c1 c2 c3))
theorem ok84 {g edgesV s} {R : List Int → List Int → List Int → List Int → Prop} (T : T84 g edgesV s R) : Ok84 g edgesV s R := by
  intro h gA gL gC H
  have Y : Sy h [] h _ := Sy.startM H rfl
  obtain rfl := Y.lenV 0 rfl
  apply calls84
  unfold S84
  unfold T84 at T
  intro hv
  have Y : Sy _ _ hv [_, _] := Y.junk _
  clear_value hv
  intro hv2
  have Y : Sy _ _ hv2 [_, _, _] := Y.junk _
  clear_value hv2
  obtain ⟨Jv_2, T0, T1⟩ := T
  obtain ⟨B, hB, _⟩ := Y.cut [] [0, 1, 2] rfl
  intro K
  have hK : ∀ (p : Nat) (xA : Option Addr) (xL xC : Nat) (xA2 : Option Addr) (xL2 xC2 : Nat) (xA3 : Option Addr) (xL3 xC3 : Nat) (hv37 : Heap), (∃ (x_2 : List Int) (x_3 : List Int) (x_4 : List Int), Sy h [] hv37 ([Ck.sl eI 3 xA xL xC x_2, Ck.sl eI 3 xA2 xL2 xC2 x_3, Ck.sl eI 3 xA3 xL3 xC3 x_4, Ck.junk p] ++ B) ∧ Jv_2 x_2 x_3 x_4) → K p xA xL xC xA2 xL2 xC2 xA3 xL3 xC3 hv37 := by
    subst hB
    clear T0 Y
    rintro p xA xL xC xA2 xL2 xC2 xA3 xL3 xC3 hv37 ⟨x_2, x_3, x_4, Y, T⟩
    obtain rfl := Y.lenS 0 rfl
    obtain rfl := Y.lenS 1 rfl
    obtain rfl := Y.lenS 2 rfl
    replace T := T1 x_2 x_3 x_4 T
    have Y : Sy _ _ _ [_, _, _, _, _, _, _] := Y
    unfold K
    intro hv38
    have Y : Sy _ _ hv38 [_, _, _, _, _, _, _] := ((((Y.stJ 3 rfl _ _).stJ 3 rfl _ _).stJ 3 rfl _ _).stJ 3 rfl _ _)
    clear_value hv38
    obtain ⟨q, q_2, T⟩ := T
    obtain ⟨b_2, hb, ho, x_5, hx⟩ := Y.atS 2 rfl q q_2
    refine ⟨b_2, 0, hb, q, q_2, ?_⟩
    refine ⟨(Y.neJ 2 3 rfl rfl rfl ho), (Y.neJ 2 6 rfl rfl rfl ho), (Y.neJ 2 5 rfl rfl rfl ho), Y.cellEx 2 rfl hb (t := 0) (by omega) (by decide), Y.freeS 2 rfl hb _, ?_⟩
    intro hv39
    have Y : Sy _ _ hv39 [_, _, _, _, _, _, _] := Y.st1 2 rfl hb 0 (by omega) rfl
    clear_value hv39
    refine callX_sy (T _ _ _ _ (Y.pick [4] rfl).hp) (fun _ _ ⟨_, _, _, _, _, p, _⟩ => p.fr) (allc (fun h => by cases h) (allc (fun h => by cases h) (allc (fun h => by cases h) alln))) ?_
    rintro v17 hv40 ⟨rA17, rL17, rC17, rH, r_2, PP, rfl, T⟩
    have Y : Sy _ _ hv40 [_, _, _, _, _, _, _, _] := Y.callV PP ⟨rfl, trivial⟩
    clear PP
    obtain rfl := Y.lenR 7 rfl
    refine ⟨_, _, _, rfl, ?_⟩
    have Y : Sy _ _ _ [_, _, _, _, _, _, _, _, _] := Y.nilS eI 3
    obtain ⟨Iv, m, T0, T1⟩ := T
    obtain ⟨B_2, hB_2, YB⟩ := Y.cut [0, 1, 2, 8] [3, 4, 5, 6, 7] rfl
    obtain ⟨JJ, hJJ⟩ : ∃ JJ : Nat → List Value → Heap → Prop, JJ = (fun k_2 lz h' => ∃ (i : Int) (c0A : Option Addr) (c0L c0C : Nat) (c0 : List Int) (c1A : Option Addr) (c1L c1C : Nat) (c1 : List Int) (c2A : Option Addr) (c2L c2C : Nat) (c2 : List Int) (c3A : Option Addr) (c3L c3C : Nat) (c3 : List Int), lz = [.int .i64 i, .slice c0A c0L c0C, .slice c1A c1L c1C, .slice c2A c2L c2C, .slice c3A c3L c3C] ∧ Sy h [] h' ([Ck.sl eI 3 c0A c0L c0C c0, Ck.sl eI 3 c1A c1L c1C c1, Ck.sl eI 3 c2A c2L c2C c2, Ck.sl eI 3 c3A c3L c3C c3] ++ B_2) ∧ Iv i c0 c1 c2 c3 ∧ m i c0 c1 c2 c3 = k_2) := ⟨_, rfl⟩
    refine ⟨fun lz h' => ∃ k_2, JJ k_2 lz h', Lm JJ, ?_, ?_⟩
    · subst hJJ hB_2
      exact ⟨_, _, _, _, _, _, _, _, _, _, _, _, _, _, _, _, _, _, rfl, YB, T0, rfl⟩
    · clear YB T0 Y
      intro i c0A c0L c0C c1A c1L c1C c2A c2L c2C c3A c3L c3C hv41 hI
      obtain ⟨k_2, hI, hm⟩ := loopIn hI
      subst hJJ hB_2
      obtain ⟨i, c0A, c0L, c0C, c0, c1A, c1L, c1C, c1, c2A, c2L, c2C, c2, c3A, c3L, c3C, c3, e, Y, T, rfl⟩ := hI
      cases e
      obtain rfl := Y.lenS 0 rfl
      obtain rfl := Y.lenS 1 rfl
      obtain rfl := Y.lenS 2 rfl
      obtain rfl := Y.lenS 3 rfl
      replace T := T1 i c0 c1 c2 c3 T
      have Y : Sy _ _ _ [_, _, _, _, _, _, _, _, _] := Y
      refine cnd_imp T (fun T => ?_) (fun T => ?_)
      · obtain ⟨q_3, q_4, T⟩ := T
        obtain ⟨b_3, hb_2, ho_2, c, hx_2⟩ := Y.atS 0 rfl q_3 q_4
        refine ⟨b_3, 0, hb_2, q_3, q_4, ?_⟩
        replace T := T c hx_2
        refine ⟨_, Y.cellS 0 rfl hb_2 (t := 0) hx_2 rfl, ?_⟩
        obtain ⟨Iv2, m2, T0, T1⟩ := T
        obtain ⟨B_3, hB_3, YB⟩ := Y.cut [0, 1, 2, 3] [4, 5, 6, 7, 8] rfl
        obtain ⟨JJ_2, hJJ_2⟩ : ∃ JJ_2 : Nat → List Value → Heap → Prop, JJ_2 = (fun k_3 lz h' => ∃ (k : Int) (c0A2 : Option Addr) (c0L2 c0C2 : Nat) (c0_2 : List Int) (c1A2 : Option Addr) (c1L2 c1C2 : Nat) (c1_2 : List Int) (c2A2 : Option Addr) (c2L2 c2C2 : Nat) (c2_2 : List Int) (c3A2 : Option Addr) (c3L2 c3C2 : Nat) (c3_2 : List Int), lz = [.int .i64 k, .slice c0A2 c0L2 c0C2, .slice c1A2 c1L2 c1C2, .slice c2A2 c2L2 c2C2, .slice c3A2 c3L2 c3C2] ∧ Sy h [] h' ([Ck.sl eI 3 c0A2 c0L2 c0C2 c0_2, Ck.sl eI 3 c1A2 c1L2 c1C2 c1_2, Ck.sl eI 3 c2A2 c2L2 c2C2 c2_2, Ck.sl eI 3 c3A2 c3L2 c3C2 c3_2] ++ B_3) ∧ Iv2 k c0_2 c1_2 c2_2 c3_2 ∧ m2 k c0_2 c1_2 c2_2 c3_2 = k_3) := ⟨_, rfl⟩
        refine ⟨fun lz h' => ∃ k_3, JJ_2 k_3 lz h', Lm JJ_2, ?_, ?_⟩
        · subst hJJ_2 hB_3
          exact ⟨_, _, _, _, _, _, _, _, _, _, _, _, _, _, _, _, _, _, rfl, YB, T0, rfl⟩
        · clear YB T0 Y
          intro k c0A2 c0L2 c0C2 c1A2 c1L2 c1C2 c2A2 c2L2 c2C2 c3A2 c3L2 c3C2 hv42 hI
          obtain ⟨k_3, hI, hm_2⟩ := loopIn hI
          subst hJJ_2 hB_3
          obtain ⟨k, c0A2, c0L2, c0C2, c0_2, c1A2, c1L2, c1C2, c1_2, c2A2, c2L2, c2C2, c2_2, c3A2, c3L2, c3C2, c3_2, e, Y, T, rfl⟩ := hI
          cases e
          obtain rfl := Y.lenS 0 rfl
          obtain rfl := Y.lenS 1 rfl
          obtain rfl := Y.lenS 2 rfl
          obtain rfl := Y.lenS 3 rfl
          replace T := T1 k c0_2 c1_2 c2_2 c3_2 T
          have Y : Sy _ _ _ [_, _, _, _, _, _, _, _, _] := Y
          obtain ⟨q_5, q_6, T⟩ := T
          obtain ⟨b_4, hb_3, ho_3, r_3, hx_3, r_4, hr⟩ := Y.atR 8 rfl q_5 q_6
          refine ⟨b_4, 0, hb_3, q_5, q_6, ?_⟩
          replace T := T r_3 hx_3
          refine ⟨_, _, _, Y.cellR 8 rfl hb_3 hr hx_3, ?_⟩
          refine cnd_imp T (fun T => ?_) (fun T => ?_)
          · have Y0 := Y
            have F : Fr [] hv42 hv42 := Fr.refl _ _
            obtain ⟨q_7, q_8, T⟩ := T
            obtain ⟨b_5, hb_4, ho_4, r_5, hx_4, r_6, hr_2⟩ := Y0.atR 8 rfl q_7 q_8
            refine ⟨b_5, 0, hb_4, q_7, q_8, ?_⟩
            replace T := T r_5 hx_4
            refine ⟨_, _, _, Y0.cellR 8 rfl hb_4 hr_2 hx_4, ?_⟩
            obtain ⟨q_9, q_10, T⟩ := T
            obtain ⟨b_6, hb_5, ho_5, x_6, hx_5⟩ := Y0.atRow 8 rfl hr_2 hx_4 q_9 q_10
            refine ⟨b_6, 0, hb_5, q_9, q_10, ?_⟩
            replace T := T x_6 hx_5
            refine ⟨_, Y0.cellRow 8 rfl hr_2 hx_4 hb_5 (t := 0) hx_5 rfl, ?_⟩
            refine callX_sy (T _ _ _ _ (Y.pick [5] rfl).hp) (fun _ _ ⟨_, p, _⟩ => p.fr) (allc (fun h => by cases h) (allc (fun h => by cases h) (allc (fun h => by cases h) alln))) ?_
            rintro v18 hv43 ⟨r, PP, rfl, T⟩
            have F : Fr _ _ hv43 := F.trans PP.fr.nil
            have fshv43 := F.size
            have Y : Sy _ _ hv43 [_, _, _, _, _, _, _, _, _] := Y.gr PP.fr
            clear PP
            refine ⟨r, rfl, ?_⟩
            refine ⟨F, ?_⟩
            obtain ⟨q_11, q_12, T⟩ := T
            obtain ⟨b_7, hb_6, ho_6, c_2, hx_6⟩ := Y.atS 2 rfl q_11 q_12
            refine ⟨b_7, 0, hb_6, q_11, q_12, ?_⟩
            replace T := T c_2 hx_6
            refine ⟨_, Y.cellS 2 rfl hb_6 (t := 0) hx_6 rfl, ?_⟩
            obtain ⟨Jv, T0, T1⟩ := T
            obtain ⟨B_4, hB_4, _⟩ := Y.cut [] [4, 5, 6, 7, 8] rfl
            refine ⟨fun lz h' => ∃ (c0A3 : Option Addr) (c0L3 c0C3 : Nat) (c0_3 : List Int) (c1A3 : Option Addr) (c1L3 c1C3 : Nat) (c1_3 : List Int) (c2A3 : Option Addr) (c2L3 c2C3 : Nat) (c2_3 : List Int) (c3A3 : Option Addr) (c3L3 c3C3 : Nat) (c3_3 : List Int), lz = [.slice c0A3 c0L3 c0C3, .slice c1A3 c1L3 c1C3, .slice c2A3 c2L3 c2C3, .slice c3A3 c3L3 c3C3] ∧ Sy h [] h' ([Ck.sl eI 3 c0A3 c0L3 c0C3 c0_3, Ck.sl eI 3 c1A3 c1L3 c1C3 c1_3, Ck.sl eI 3 c2A3 c2L3 c2C3 c2_3, Ck.sl eI 3 c3A3 c3L3 c3C3 c3_3] ++ B_4) ∧ Jv c0_3 c1_3 c2_3 c3_3, ?_, ?_⟩
            · subst hB_4
              replace T := T0
              clear T0 T1
              refine cnd_imp T (fun T => ?_) (fun T => ?_)
              · have Y0 := Y
                have F : Fr [] hv43 hv43 := Fr.refl _ _
                obtain ⟨q_13, q_14, T⟩ := T
                obtain ⟨b_8, hb_7, ho_7, c_3, hx_7⟩ := Y0.atS 2 rfl q_13 q_14
                refine ⟨b_8, 0, hb_7, q_13, q_14, ?_⟩
                replace T := T c_3 hx_7
                refine ⟨_, Y0.cellS 2 rfl hb_7 (t := 0) hx_7 rfl, ?_⟩
                obtain ⟨q_15, q_16, T⟩ := T
                obtain ⟨b_9, hb_8, ho_8, c_4, hx_8⟩ := Y0.atS 2 rfl q_15 q_16
                refine ⟨b_9, 0, hb_8, q_15, q_16, ?_⟩
                refine ⟨(Y.neJ 2 4 rfl rfl rfl ho_8), (Y.neJ 2 6 rfl rfl rfl ho_8), (Y.neJ 2 7 rfl rfl rfl ho_8), Y.cellEx 2 rfl hb_8 (t := 0) (by omega) (by decide), Y.freeS 2 rfl hb_8 _, ?_⟩
                intro hv44
                have Y : Sy _ _ hv44 [_, _, _, _, _, _, _, _, _] := Y.st1 2 rfl hb_8 (IntKind.i64.wrap (c_3 + (1 : Int))) (by omega) rfl
                clear_value hv44
                have Y0 := Y
                have F : Fr [] hv44 hv44 := Fr.refl _ _
                refine ⟨b_5, 0, hb_4, q_7, q_8, ?_⟩
                refine ⟨_, _, _, Y0.cellR 8 rfl hb_4 hr_2 hx_4, ?_⟩
                refine ⟨b_6, 0, hb_5, q_9, q_10, ?_⟩
                refine ⟨_, Y0.cellRow 8 rfl hr_2 hx_4 hb_5 (t := 0) hx_5 rfl, ?_⟩
                obtain ⟨q_17, q_18, T⟩ := T
                obtain ⟨b_10, hb_9, ho_9, c_5, hx_9⟩ := Y0.atS 1 rfl q_17 q_18
                refine ⟨b_10, 0, hb_9, q_17, q_18, ?_⟩
                refine ⟨(Y.neJ 1 4 rfl rfl rfl ho_9), (Y.neJ 1 6 rfl rfl rfl ho_9), (Y.neJ 1 7 rfl rfl rfl ho_9), Y.cellEx 1 rfl hb_9 (t := 0) (by omega) (by decide), Y.freeS 1 rfl hb_9 _, ?_⟩
                intro hv45
                have Y : Sy _ _ hv45 [_, _, _, _, _, _, _, _, _] := Y.st1 1 rfl hb_9 x_6 (by omega) rfl
                clear_value hv45
                intro hv46
                have Y : Sy _ _ hv46 [_, _, _, _, _, _, _, _, _, _] := Y.junk _
                clear_value hv46
                obtain ⟨q_19, T⟩ := T
                refine ⟨_, Y.ownS 0 rfl, (allc (Y.nJ 0 9 rfl rfl rfl) (allc (Y.nJ 0 4 rfl rfl rfl) (allc (Y.nJ 0 6 rfl rfl rfl) (allc (Y.nJ 0 7 rfl rfl rfl) alln)))), by first | exact appB q_19 (by decide) | omega, by first | exact appM q_19 | (simp [maxLen]; omega), ?_⟩
                intro sA sC hv47 ow fA gA gB
                have Y : Sy _ _ hv47 [_, _, _, _, _, _, _, _, _, _] := Y.appS 0 rfl ([r] : List Int) ow fA gA rfl rfl
                intro hv48
                have Y : Sy _ _ hv48 [_, _, _, _, _, _, _, _, _, _] := (Y.stJ 4 rfl _ _)
                clear_value hv48
                exact ⟨_, _, _, _, _, _, _, _, _, _, _, _, _, _, _, _, rfl, Y.pick [0, 1, 2, 3, 4, 5, 6, 7, 8] rfl, T⟩
              · exact ⟨_, _, _, _, _, _, _, _, _, _, _, _, _, _, _, _, rfl, Y.pick [0, 1, 2, 3, 4, 5, 6, 7, 8] rfl, T⟩
            · subst hB_4
              clear T0 Y
              rintro c0A3 c0L3 c0C3 c1A3 c1L3 c1C3 c2A3 c2L3 c2C3 c3A3 c3L3 c3C3 hv49 ⟨c0A3, c0L3, c0C3, c0_3, c1A3, c1L3, c1C3, c1_3, c2A3, c2L3, c2C3, c2_3, c3A3, c3L3, c3C3, c3_3, e, Y, T⟩
              cases e
              obtain rfl := Y.lenS 0 rfl
              obtain rfl := Y.lenS 1 rfl
              obtain rfl := Y.lenS 2 rfl
              obtain rfl := Y.lenS 3 rfl
              replace T := T1 c0_3 c1_3 c2_3 c3_3 T
              have Y : Sy _ _ _ [_, _, _, _, _, _, _, _, _] := Y
              exact loopBack hm_2 ⟨_, _, _, _, _, _, _, _, _, _, _, _, _, _, _, _, _, rfl, Y.pick [0, 1, 2, 3, 4, 5, 6, 7, 8] rfl, T.1, rfl⟩ T.2
          · exact loopBack hm ⟨_, _, _, _, _, _, _, _, _, _, _, _, _, _, _, _, _, rfl, Y.pick [0, 1, 2, 3, 4, 5, 6, 7, 8] rfl, T.1, rfl⟩ T.2
      · intro hv50
        have Y : Sy _ _ hv50 [_, _, _, _, _, _, _, _, _] := ((((Y.stJ 7 rfl _ _).stJ 7 rfl _ _).stJ 7 rfl _ _).stJ 7 rfl _ _)
        clear_value hv50
        exact ⟨_, _, _, _, _, _, _, _, _, _, _, _, _, _, _, _, Y.pick [0, 1, 2, 3] rfl, rfl, T⟩
  subst hB
  replace T := T0
  clear T0 T1
  have Y0 := Y
  have F : Fr [] hv2 hv2 := Fr.refl _ _
  refine ⟨?_, ?_, ?_⟩
  · intro hv3
    have Y : Sy _ _ hv3 [_, _, _, _] := Y.litS (E := eI) (ty := 3) ([s] : List Int) rfl (by simp [maxLen])
    have F : Fr _ _ hv3 := F.pushr _
    have fshv3 := F.size
    clear_value hv3
    refine ⟨F, ?_⟩
    refine ⟨?_, ?_⟩
    · refine callX_sy (T _ (Hp.nil _)) (fun _ _ ⟨_, _, _, _, p, _⟩ => p.fr) (allc (fun h => by cases h) (allc (fun h => by cases h) alln)) ?_
      rintro v hv4 ⟨rA, rL, rC, r_7, PP, rfl, T⟩
      have F : Fr _ _ hv4 := F.trans PP.fr.nil
      have fshv4 := F.size
      have Y : Sy _ _ hv4 [_, _, _, _, _] := Y.callV PP ⟨rfl, trivial⟩
      clear PP
      obtain rfl := Y.lenS 4 rfl
      refine ⟨_, _, _, rfl, ?_⟩
      refine ⟨F, ?_⟩
      refine ⟨?_, ?_⟩
      · refine callX_sy (T _ (Hp.nil _)) (fun _ _ ⟨_, _, _, _, p, _⟩ => p.fr) (allc (fun h => by cases h) (allc (fun h => by cases h) alln)) ?_
        rintro v2 hv5 ⟨rA2, rL2, rC2, r_8, PP, rfl, T⟩
        have F : Fr _ _ hv5 := F.trans PP.fr.nil
        have fshv5 := F.size
        have Y : Sy _ _ hv5 [_, _, _, _, _, _] := Y.callV PP ⟨rfl, trivial⟩
        clear PP
        obtain rfl := Y.lenS 5 rfl
        refine ⟨_, _, _, rfl, ?_⟩
        refine ⟨F, ?_⟩
        intro hv6
        have Y : Sy _ _ hv6 [_, _, _, _, _, _, _] := Y.junk _
        have F : Fr _ _ hv6 := F.pushr _
        have fshv6 := F.size
        clear_value hv6
        refine ⟨F, ?_⟩
        exact hK _ _ _ _ _ _ _ _ _ _ _ ⟨_, _, _, Y.pick [3, 4, 5, 6, 0, 1, 2] rfl, T⟩
      · intro hv7
        have Y : Sy _ _ hv7 [_, _, _, _, _, _] := Y.junk _
        have F : Fr _ _ hv7 := F.pushr _
        have fshv7 := F.size
        clear_value hv7
        refine ⟨F, ?_⟩
        refine callX_sy (T _ (Hp.nil _)) (fun _ _ ⟨_, _, _, _, p, _⟩ => p.fr) (allc (fun h => by cases h) (allc (fun h => by cases h) (allc (fun h => by cases h) alln))) ?_
        rintro v3 hv8 ⟨rA3, rL3, rC3, r_9, PP, rfl, T⟩
        have F : Fr _ _ hv8 := F.trans PP.fr.nil
        have fshv8 := F.size
        have Y : Sy _ _ hv8 [_, _, _, _, _, _, _] := Y.callV PP ⟨rfl, trivial⟩
        clear PP
        obtain rfl := Y.lenS 6 rfl
        refine ⟨_, _, _, rfl, ?_⟩
        refine ⟨F, ?_⟩
        exact hK _ _ _ _ _ _ _ _ _ _ _ ⟨_, _, _, Y.pick [3, 4, 6, 5, 0, 1, 2] rfl, T⟩
    · intro hv9
      have Y : Sy _ _ hv9 [_, _, _, _, _] := Y.junk _
      have F : Fr _ _ hv9 := F.pushr _
      have fshv9 := F.size
      clear_value hv9
      refine ⟨F, ?_⟩
      refine callX_sy (T _ (Hp.nil _)) (fun _ _ ⟨_, _, _, _, p, _⟩ => p.fr) (allc (fun h => by cases h) (allc (fun h => by cases h) (allc (fun h => by cases h) alln))) ?_
      rintro v4 hv10 ⟨rA4, rL4, rC4, r_10, PP, rfl, T⟩
      have F : Fr _ _ hv10 := F.trans PP.fr.nil
      have fshv10 := F.size
      have Y : Sy _ _ hv10 [_, _, _, _, _, _] := Y.callV PP ⟨rfl, trivial⟩
      clear PP
      obtain rfl := Y.lenS 5 rfl
      refine ⟨_, _, _, rfl, ?_⟩
      refine ⟨F, ?_⟩
      refine callX_sy (T _ (Hp.nil _)) (fun _ _ ⟨_, _, _, _, p, _⟩ => p.fr) (allc (fun h => by cases h) (allc (fun h => by cases h) (allc (fun h => by cases h) alln))) ?_
      rintro v5 hv11 ⟨rA5, rL5, rC5, r_11, PP, rfl, T⟩
      have F : Fr _ _ hv11 := F.trans PP.fr.nil
      have fshv11 := F.size
      have Y : Sy _ _ hv11 [_, _, _, _, _, _, _] := Y.callV PP ⟨rfl, trivial⟩
      clear PP
      obtain rfl := Y.lenS 6 rfl
      refine ⟨_, _, _, rfl, ?_⟩
      refine ⟨F, ?_⟩
      exact hK _ _ _ _ _ _ _ _ _ _ _ ⟨_, _, _, Y.pick [3, 5, 6, 4, 0, 1, 2] rfl, T⟩
  · refine callX_sy (T _ (Hp.nil _)) (fun _ _ ⟨_, _, _, _, p, _⟩ => p.fr) (allc (fun h => by cases h) (allc (fun h => by cases h) alln)) ?_
    rintro v6 hv12 ⟨rA6, rL6, rC6, r_12, PP, rfl, T⟩
    have F : Fr _ _ hv12 := F.trans PP.fr.nil
    have fshv12 := F.size
    have Y : Sy _ _ hv12 [_, _, _, _] := Y.callV PP ⟨rfl, trivial⟩
    clear PP
    obtain rfl := Y.lenS 3 rfl
    refine ⟨_, _, _, rfl, ?_⟩
    refine ⟨F, ?_⟩
    refine ⟨?_, ?_, ?_⟩
    · intro hv13
      have Y : Sy _ _ hv13 [_, _, _, _, _] := Y.litS (E := eI) (ty := 3) ([s] : List Int) rfl (by simp [maxLen])
      have F : Fr _ _ hv13 := F.pushr _
      have fshv13 := F.size
      clear_value hv13
      refine ⟨F, ?_⟩
      refine ⟨?_, ?_⟩
      · refine callX_sy (T _ (Hp.nil _)) (fun _ _ ⟨_, _, _, _, p, _⟩ => p.fr) (allc (fun h => by cases h) (allc (fun h => by cases h) alln)) ?_
        rintro v7 hv14 ⟨rA7, rL7, rC7, r_13, PP, rfl, T⟩
        have F : Fr _ _ hv14 := F.trans PP.fr.nil
        have fshv14 := F.size
        have Y : Sy _ _ hv14 [_, _, _, _, _, _] := Y.callV PP ⟨rfl, trivial⟩
        clear PP
        obtain rfl := Y.lenS 5 rfl
        refine ⟨_, _, _, rfl, ?_⟩
        refine ⟨F, ?_⟩
        intro hv15
        have Y : Sy _ _ hv15 [_, _, _, _, _, _, _] := Y.junk _
        have F : Fr _ _ hv15 := F.pushr _
        have fshv15 := F.size
        clear_value hv15
        refine ⟨F, ?_⟩
        exact hK _ _ _ _ _ _ _ _ _ _ _ ⟨_, _, _, Y.pick [4, 3, 5, 6, 0, 1, 2] rfl, T⟩
      · intro hv16
        have Y : Sy _ _ hv16 [_, _, _, _, _, _] := Y.junk _
        have F : Fr _ _ hv16 := F.pushr _
        have fshv16 := F.size
        clear_value hv16
        refine ⟨F, ?_⟩
        refine callX_sy (T _ (Hp.nil _)) (fun _ _ ⟨_, _, _, _, p, _⟩ => p.fr) (allc (fun h => by cases h) (allc (fun h => by cases h) (allc (fun h => by cases h) alln))) ?_
        rintro v8 hv17 ⟨rA8, rL8, rC8, r_14, PP, rfl, T⟩
        have F : Fr _ _ hv17 := F.trans PP.fr.nil
        have fshv17 := F.size
        have Y : Sy _ _ hv17 [_, _, _, _, _, _, _] := Y.callV PP ⟨rfl, trivial⟩
        clear PP
        obtain rfl := Y.lenS 6 rfl
        refine ⟨_, _, _, rfl, ?_⟩
        refine ⟨F, ?_⟩
        exact hK _ _ _ _ _ _ _ _ _ _ _ ⟨_, _, _, Y.pick [4, 3, 6, 5, 0, 1, 2] rfl, T⟩
    · refine callX_sy (T _ (Hp.nil _)) (fun _ _ ⟨_, _, _, _, p, _⟩ => p.fr) (allc (fun h => by cases h) (allc (fun h => by cases h) alln)) ?_
      rintro v9 hv18 ⟨rA9, rL9, rC9, r_15, PP, rfl, T⟩
      have F : Fr _ _ hv18 := F.trans PP.fr.nil
      have fshv18 := F.size
      have Y : Sy _ _ hv18 [_, _, _, _, _] := Y.callV PP ⟨rfl, trivial⟩
      clear PP
      obtain rfl := Y.lenS 4 rfl
      refine ⟨_, _, _, rfl, ?_⟩
      refine ⟨F, ?_⟩
      refine ⟨?_, ?_⟩
      · intro hv19
        have Y : Sy _ _ hv19 [_, _, _, _, _, _] := Y.litS (E := eI) (ty := 3) ([s] : List Int) rfl (by simp [maxLen])
        have F : Fr _ _ hv19 := F.pushr _
        have fshv19 := F.size
        clear_value hv19
        refine ⟨F, ?_⟩
        intro hv20
        have Y : Sy _ _ hv20 [_, _, _, _, _, _, _] := Y.junk _
        have F : Fr _ _ hv20 := F.pushr _
        have fshv20 := F.size
        clear_value hv20
        refine ⟨F, ?_⟩
        exact hK _ _ _ _ _ _ _ _ _ _ _ ⟨_, _, _, Y.pick [5, 3, 4, 6, 0, 1, 2] rfl, T⟩
      · intro hv21
        have Y : Sy _ _ hv21 [_, _, _, _, _, _] := Y.junk _
        have F : Fr _ _ hv21 := F.pushr _
        have fshv21 := F.size
        clear_value hv21
        refine ⟨F, ?_⟩
        intro hv22
        have Y : Sy _ _ hv22 [_, _, _, _, _, _, _] := Y.litS (E := eI) (ty := 3) ([s] : List Int) rfl (by simp [maxLen])
        have F : Fr _ _ hv22 := F.pushr _
        have fshv22 := F.size
        clear_value hv22
        refine ⟨F, ?_⟩
        exact hK _ _ _ _ _ _ _ _ _ _ _ ⟨_, _, _, Y.pick [6, 3, 4, 5, 0, 1, 2] rfl, T⟩
    · intro hv23
      have Y : Sy _ _ hv23 [_, _, _, _, _] := Y.junk _
      have F : Fr _ _ hv23 := F.pushr _
      have fshv23 := F.size
      clear_value hv23
      refine ⟨F, ?_⟩
      refine ⟨?_, ?_⟩
      · intro hv24
        have Y : Sy _ _ hv24 [_, _, _, _, _, _] := Y.litS (E := eI) (ty := 3) ([s] : List Int) rfl (by simp [maxLen])
        have F : Fr _ _ hv24 := F.pushr _
        have fshv24 := F.size
        clear_value hv24
        refine ⟨F, ?_⟩
        refine callX_sy (T _ (Hp.nil _)) (fun _ _ ⟨_, _, _, _, p, _⟩ => p.fr) (allc (fun h => by cases h) (allc (fun h => by cases h) (allc (fun h => by cases h) alln))) ?_
        rintro v10 hv25 ⟨rA10, rL10, rC10, r_16, PP, rfl, T⟩
        have F : Fr _ _ hv25 := F.trans PP.fr.nil
        have fshv25 := F.size
        have Y : Sy _ _ hv25 [_, _, _, _, _, _, _] := Y.callV PP ⟨rfl, trivial⟩
        clear PP
        obtain rfl := Y.lenS 6 rfl
        refine ⟨_, _, _, rfl, ?_⟩
        refine ⟨F, ?_⟩
        exact hK _ _ _ _ _ _ _ _ _ _ _ ⟨_, _, _, Y.pick [5, 3, 6, 4, 0, 1, 2] rfl, T⟩
      · refine callX_sy (T _ (Hp.nil _)) (fun _ _ ⟨_, _, _, _, p, _⟩ => p.fr) (allc (fun h => by cases h) (allc (fun h => by cases h) (allc (fun h => by cases h) alln))) ?_
        rintro v11 hv26 ⟨rA11, rL11, rC11, r_17, PP, rfl, T⟩
        have F : Fr _ _ hv26 := F.trans PP.fr.nil
        have fshv26 := F.size
        have Y : Sy _ _ hv26 [_, _, _, _, _, _] := Y.callV PP ⟨rfl, trivial⟩
        clear PP
        obtain rfl := Y.lenS 5 rfl
        refine ⟨_, _, _, rfl, ?_⟩
        refine ⟨F, ?_⟩
        intro hv27
        have Y : Sy _ _ hv27 [_, _, _, _, _, _, _] := Y.litS (E := eI) (ty := 3) ([s] : List Int) rfl (by simp [maxLen])
        have F : Fr _ _ hv27 := F.pushr _
        have fshv27 := F.size
        clear_value hv27
        refine ⟨F, ?_⟩
        exact hK _ _ _ _ _ _ _ _ _ _ _ ⟨_, _, _, Y.pick [6, 3, 5, 4, 0, 1, 2] rfl, T⟩
  · intro hv28
    have Y : Sy _ _ hv28 [_, _, _, _] := Y.junk _
    have F : Fr _ _ hv28 := F.pushr _
    have fshv28 := F.size
    clear_value hv28
    refine ⟨F, ?_⟩
    refine ⟨?_, ?_⟩
    · intro hv29
      have Y : Sy _ _ hv29 [_, _, _, _, _] := Y.litS (E := eI) (ty := 3) ([s] : List Int) rfl (by simp [maxLen])
      have F : Fr _ _ hv29 := F.pushr _
      have fshv29 := F.size
      clear_value hv29
      refine ⟨F, ?_⟩
      refine callX_sy (T _ (Hp.nil _)) (fun _ _ ⟨_, _, _, _, p, _⟩ => p.fr) (allc (fun h => by cases h) (allc (fun h => by cases h) (allc (fun h => by cases h) alln))) ?_
      rintro v12 hv30 ⟨rA12, rL12, rC12, r_18, PP, rfl, T⟩
      have F : Fr _ _ hv30 := F.trans PP.fr.nil
      have fshv30 := F.size
      have Y : Sy _ _ hv30 [_, _, _, _, _, _] := Y.callV PP ⟨rfl, trivial⟩
      clear PP
      obtain rfl := Y.lenS 5 rfl
      refine ⟨_, _, _, rfl, ?_⟩
      refine ⟨F, ?_⟩
      refine callX_sy (T _ (Hp.nil _)) (fun _ _ ⟨_, _, _, _, p, _⟩ => p.fr) (allc (fun h => by cases h) (allc (fun h => by cases h) (allc (fun h => by cases h) alln))) ?_
      rintro v13 hv31 ⟨rA13, rL13, rC13, r_19, PP, rfl, T⟩
      have F : Fr _ _ hv31 := F.trans PP.fr.nil
      have fshv31 := F.size
      have Y : Sy _ _ hv31 [_, _, _, _, _, _, _] := Y.callV PP ⟨rfl, trivial⟩
      clear PP
      obtain rfl := Y.lenS 6 rfl
      refine ⟨_, _, _, rfl, ?_⟩
      refine ⟨F, ?_⟩
      exact hK _ _ _ _ _ _ _ _ _ _ _ ⟨_, _, _, Y.pick [4, 5, 6, 3, 0, 1, 2] rfl, T⟩
    · refine callX_sy (T _ (Hp.nil _)) (fun _ _ ⟨_, _, _, _, p, _⟩ => p.fr) (allc (fun h => by cases h) (allc (fun h => by cases h) (allc (fun h => by cases h) alln))) ?_
      rintro v14 hv32 ⟨rA14, rL14, rC14, r_20, PP, rfl, T⟩
      have F : Fr _ _ hv32 := F.trans PP.fr.nil
      have fshv32 := F.size
      have Y : Sy _ _ hv32 [_, _, _, _, _] := Y.callV PP ⟨rfl, trivial⟩
      clear PP
      obtain rfl := Y.lenS 4 rfl
      refine ⟨_, _, _, rfl, ?_⟩
      refine ⟨F, ?_⟩
      refine ⟨?_, ?_⟩
      · intro hv33
        have Y : Sy _ _ hv33 [_, _, _, _, _, _] := Y.litS (E := eI) (ty := 3) ([s] : List Int) rfl (by simp [maxLen])
        have F : Fr _ _ hv33 := F.pushr _
        have fshv33 := F.size
        clear_value hv33
        refine ⟨F, ?_⟩
        refine callX_sy (T _ (Hp.nil _)) (fun _ _ ⟨_, _, _, _, p, _⟩ => p.fr) (allc (fun h => by cases h) (allc (fun h => by cases h) (allc (fun h => by cases h) alln))) ?_
        rintro v15 hv34 ⟨rA15, rL15, rC15, r_21, PP, rfl, T⟩
        have F : Fr _ _ hv34 := F.trans PP.fr.nil
        have fshv34 := F.size
        have Y : Sy _ _ hv34 [_, _, _, _, _, _, _] := Y.callV PP ⟨rfl, trivial⟩
        clear PP
        obtain rfl := Y.lenS 6 rfl
        refine ⟨_, _, _, rfl, ?_⟩
        refine ⟨F, ?_⟩
        exact hK _ _ _ _ _ _ _ _ _ _ _ ⟨_, _, _, Y.pick [5, 4, 6, 3, 0, 1, 2] rfl, T⟩
      · refine callX_sy (T _ (Hp.nil _)) (fun _ _ ⟨_, _, _, _, p, _⟩ => p.fr) (allc (fun h => by cases h) (allc (fun h => by cases h) (allc (fun h => by cases h) alln))) ?_
        rintro v16 hv35 ⟨rA16, rL16, rC16, r_22, PP, rfl, T⟩
        have F : Fr _ _ hv35 := F.trans PP.fr.nil
        have fshv35 := F.size
        have Y : Sy _ _ hv35 [_, _, _, _, _, _] := Y.callV PP ⟨rfl, trivial⟩
        clear PP
        obtain rfl := Y.lenS 5 rfl
        refine ⟨_, _, _, rfl, ?_⟩
        refine ⟨F, ?_⟩
        intro hv36
        have Y : Sy _ _ hv36 [_, _, _, _, _, _, _] := Y.litS (E := eI) (ty := 3) ([s] : List Int) rfl (by simp [maxLen])
        have F : Fr _ _ hv36 := F.pushr _
        have fshv36 := F.size
        clear_value hv36
        refine ⟨F, ?_⟩
        exact hK _ _ _ _ _ _ _ _ _ _ _ ⟨_, _, _, Y.pick [6, 4, 5, 3, 0, 1, 2] rfl, T⟩
/-- tracery/traceryref3.Ints -/
def S68 (aA : Option Addr) (aL aC : Nat) (bA : Option Addr) (bL bC : Nat) (h : Heap) (R : Value → Heap → Prop) : Prop :=
  cnd (((aL : Nat) : Int) != ((bL : Nat) : Int))
    (R (.bool false) h)
    (∃ (Iv : List Value → Heap → Prop) (m : List Value → Heap → Nat), Iv [.int .i64 0] h ∧ -- loop 0: ['i']
    ∀ i : Int, ∀ hv, Iv [.int .i64 i] hv →
    cnd (decide (i < ((aL : Nat) : Int)))
      (∃ b o, aA = some ⟨b, o, none⟩ ∧ 0 ≤ i ∧ i < (aL : Nat) ∧ ∃ x : Int, hcell hv b (o + (Int.toNat i) * 1) = some (.int .i64 x) ∧ ∃ b2 o2, bA = some ⟨b2, o2, none⟩ ∧ 0 ≤ i ∧ i < (bL : Nat) ∧ ∃ x2 : Int, hcell hv b2 (o2 + (Int.toNat i) * 1) = some (.int .i64 x2) ∧ cnd (x != x2)
        (R (.bool false) hv)
        (Iv [.int .i64 (IntKind.i64.wrap (i + (1 : Int)))] hv ∧ m [.int .i64 (IntKind.i64.wrap (i + (1 : Int)))] hv < m [.int .i64 i] hv))
      (R (.bool true) hv))
theorem calls68 {h : Heap} {R : Value → Heap → Prop} (aA : Option Addr) (aL aC : Nat) (bA : Option Addr) (bL bC : Nat) (H : S68 aA aL aC bA bL bC h R) : CallsH Try.prog 68 #[.slice aA aL aC, .slice bA bL bC] h R := by
  have e : S68 aA aL aC bA bL bC h R = FX (envX [] 26) { loops := [(0, ⟨[0, 1], [5], [], []⟩)], joins := [], blocks := [], draws := [(6, ⟨9, false⟩)] } Try.f68 (Try.f68.body.getD .skip) [.slice aA aL aC, .slice bA bL bC] h R := by kernel_rfl
  exact calls_of_FX (envX_ok _ _) Try.func68 (by kernel_rfl) (by kernel_rfl) (by kernel_rfl) (e ▸ H)
/-- tracery/traceryref3.Ints -/
def Ok68 (aV : List Int) (bV : List Int) (R : Bool → Prop) : Prop :=
  ∀ (h : Heap) (aA : Option Addr) (aL aC : Nat) (bA : Option Addr) (bL bC : Nat), Hp h [Ck.vw eI aA aL aC aV, Ck.vw eI bA bL bC bV] → CallsH Try.prog 68 #[.slice aA aL aC, .slice bA bL bC] h fun v h' => ∃ (rV : Bool), Sy h [] h' [] ∧ v = .bool rV ∧ R rV
theorem Ok68.mono {aV bV} {R R' : Bool → Prop} (H : Ok68 aV bV R) (kz : ∀ rV, R rV → R' rV) : Ok68 aV bV R' :=
  fun h aA aL aC bA bL bC hp => (H h aA aL aC bA bL bC hp).mono fun _ _ ⟨rV, P, e, q⟩ => ⟨rV, P, e, kz _ q⟩
def T68 (aV : List Int) (bV : List Int) (R : Bool → Prop) : Prop :=
  cnd (((aV.length : Nat) : Int) != ((bV.length : Nat) : Int))
    (R false)
    (∃ (Iv : Int → Prop) (m : Int → Nat), Iv 0 ∧
    ∀ i : Int, Iv i →
    cnd (decide (i < ((aV.length : Nat) : Int)))
      (0 ≤ i ∧ i < ((aV.length : Nat) : Int) ∧ ∀ a : Int, aV[(Int.toNat i)]? = some a → 0 ≤ i ∧ i < ((bV.length : Nat) : Int) ∧ ∀ b_4 : Int, bV[(Int.toNat i)]? = some b_4 → cnd (a != b_4)
        (R false)
        (Iv (IntKind.i64.wrap (i + (1 : Int))) ∧ m (IntKind.i64.wrap (i + (1 : Int))) < m i))
      (R true))
theorem ok68 {aV bV} {R : Bool → Prop} (T : T68 aV bV R) : Ok68 aV bV R := by
  intro h aA aL aC bA bL bC H
  have Y : Sy h [] h _ := Sy.startM H rfl
  obtain rfl := Y.lenV 0 rfl
  obtain rfl := Y.lenV 1 rfl
  apply calls68
  unfold S68
  unfold T68 at T
  refine cnd_imp T (fun T => ?_) (fun T => ?_)
  · exact ⟨_, Y.pick [] rfl, rfl, T⟩
  · obtain ⟨Iv, m, T0, T1⟩ := T
    obtain ⟨B, hB, YB⟩ := Y.cut [] [0, 1] rfl
    obtain ⟨JJ, hJJ⟩ : ∃ JJ : Nat → List Value → Heap → Prop, JJ = (fun k lz h' => ∃ (i : Int), lz = [.int .i64 i] ∧ Sy h [] h' ([] ++ B) ∧ Iv i ∧ m i = k) := ⟨_, rfl⟩
    refine ⟨fun lz h' => ∃ k, JJ k lz h', Lm JJ, ?_, ?_⟩
    · subst hJJ hB
      exact ⟨_, _, rfl, YB, T0, rfl⟩
    · clear YB T0 Y
      intro i hv hI
      obtain ⟨k, hI, hm⟩ := loopIn hI
      subst hJJ hB
      obtain ⟨i, e, Y, T, rfl⟩ := hI
      cases e
      replace T := T1 i T
      have Y : Sy _ _ _ [_, _] := Y
      refine cnd_imp T (fun T => ?_) (fun T => ?_)
      · have Y0 := Y
        have F : Fr [] hv hv := Fr.refl _ _
        obtain ⟨q, q_2, T⟩ := T
        obtain ⟨b_2, o_2, hb, hr, a, hx⟩ := Y0.atV 0 rfl q q_2
        refine ⟨b_2, o_2, hb, q, q_2, ?_⟩
        replace T := T a hx
        refine ⟨_, Y0.cellV 0 rfl hb (t := 0) hx rfl, ?_⟩
        obtain ⟨q_3, q_4, T⟩ := T
        obtain ⟨b_3, o_3, hb_2, hr_2, b_4, hx_2⟩ := Y0.atV 1 rfl q_3 q_4
        refine ⟨b_3, o_3, hb_2, q_3, q_4, ?_⟩
        replace T := T b_4 hx_2
        refine ⟨_, Y0.cellV 1 rfl hb_2 (t := 0) hx_2 rfl, ?_⟩
        refine cnd_imp T (fun T => ?_) (fun T => ?_)
        · exact ⟨_, Y.pick [] rfl, rfl, T⟩
        · exact loopBack hm ⟨_, rfl, Y.pick [0, 1] rfl, T.1, rfl⟩ T.2
      · exact ⟨_, Y.pick [] rfl, rfl, T⟩
end Go.Proofs.Ytmcloipjlihhlaa.N
