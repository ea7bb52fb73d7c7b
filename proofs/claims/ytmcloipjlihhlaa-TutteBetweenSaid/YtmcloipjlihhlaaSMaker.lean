/- What is left to be shown of some functions: printed by program out of the loaded functions; tied to them by the kernel. Conditions: none. -/
import Derived.Test.YtmcloipjlihhlaaSEnv
namespace Go.Proofs.Ytmcloipjlihhlaa
open Go.X
set_option maxRecDepth 100000
set_option linter.unusedVariables false

/-- tracery/tracerylaw5.MakerStacks -/
def S3 (n : Int) (seed : Int) (h : Heap) (R : Value → Heap → Prop) : Prop :=
  callX Try.prog 27 #[] h [] fun v hv =>
  ∃ r : Bool, v = .bool r ∧
  cnd (!r)
    (R (.bool false) hv)
    (cnd (decide (n < (3 : Int)))
      (R (.bool true) hv)
      (cnd (decide (n > (60 : Int)))
         (R (.bool true) hv)
         (callX Try.prog 28 #[.int .i64 n, .int .u64 seed] hv [] fun v2 hv2 =>
         ∃ ra : Int, ∃ (raA : Option Addr) (raL raC : Nat), ∃ rb : Int, v2 = .tuple #[.agg #[.int .i64 ra, .slice raA raL raC], .int .i64 rb] ∧
         let hv3 : Heap := hv2.push (.cells #[.int .i64 0, .slice none 0 0] 26)
         let hv4 : Heap := hset (hset hv3 hv2.size 0 (.int .i64 ra)) hv2.size (0 + 1) (.slice raA raL raC)
         let k : Prop :=
           (cnd (((raL : Nat) : Int) != (3 : Int))
             (R (.bool false) hv4)
             (callX Try.prog 29 #[.agg #[.int .i64 ra, .slice raA raL raC]] hv4 [hv2.size] fun v3 hv5 =>
             ∃ r2 : Int, ∃ r3 : Int, ∃ r4 : Int, ∃ r5 : Int, ∃ r6 : Bool, v3 = .agg #[.int .i64 r2, .int .i64 r3, .int .i64 r4, .int .i64 r5, .bool r6] ∧
             cnd (!r6)
               (R (.bool false) hv5)
               (0 ≤ n ∧ n ≤ n ∧ ((24 : Nat) : Int) * n ≤ 281474976710656 ∧ n ≤ 9223372036854775807 ∧ let hv7 : Heap := hv5.push (.cells (madeCells (List.toArray [.slice none 0 0]) (Int.toNat n * 1)) 34)
               ∃ (Iv : List Value → Heap → Prop) (m : List Value → Heap → Nat), Iv [.int .i64 0] hv7 ∧ -- loop 0: ['v'] []
               ∀ v5 : Int, ∀ hv8, Iv [.int .i64 v5] hv8 →
               cnd (decide (v5 < n))
                 (0 ≤ n ∧ n ≤ n ∧ ((1 : Nat) : Int) * n ≤ 281474976710656 ∧ n ≤ 9223372036854775807 ∧ let hv9 : Heap := hv8.push (.cells (madeCells (List.toArray [.bool false]) (Int.toNat n * 1)) 4)
                 ∃ b o, (some (⟨hv5.size, 0, none⟩ : Addr)) = some ⟨b, o, none⟩ ∧ 0 ≤ v5 ∧ v5 < ((Int.toNat n) : Nat) ∧ b ≠ hv2.size ∧ (∃ u, hcell hv9 b (o + (Int.toNat v5) * 1) = some u) ∧ hfree hv9 b (o + (Int.toNat v5) * 1) = true ∧ let hv10 : Heap := hset hv9 b (o + (Int.toNat v5) * 1) (.slice (some (⟨hv8.size, 0, none⟩ : Addr)) (Int.toNat n) (Int.toNat n))
                 Iv [.int .i64 (IntKind.i64.wrap (v5 + (1 : Int)))] hv10 ∧ m [.int .i64 (IntKind.i64.wrap (v5 + (1 : Int)))] hv10 < m [.int .i64 v5] hv8)
                 (∃ (Iv2 : List Value → Heap → Prop) (m2 : List Value → Heap → Nat), Iv2 [.int .i64 0] hv8 ∧ -- loop 2: ['i'] []
                 ∀ i : Int, ∀ hv11, Iv2 [.int .i64 i] hv11 →
                 cnd (decide (i < ((raL : Nat) : Int)))
                   (∃ b2 o2, raA = some ⟨b2, o2, none⟩ ∧ 0 ≤ i ∧ i < (raL : Nat) ∧ ∃ x : Int, hcell hv11 b2 ((o2 + (Int.toNat i) * 2) + 0) = some (.int .i64 x) ∧ ∃ b3 o3, raA = some ⟨b3, o3, none⟩ ∧ 0 ≤ i ∧ i < (raL : Nat) ∧ ∃ x2 : Int, hcell hv11 b3 ((o3 + (Int.toNat i) * 2) + 1) = some (.int .i64 x2) ∧ ∃ b4 o4, (some (⟨hv5.size, 0, none⟩ : Addr)) = some ⟨b4, o4, none⟩ ∧ 0 ≤ x ∧ x < ((Int.toNat n) : Nat) ∧ ∃ (xA : Option Addr) (xL xC : Nat), hcell hv11 b4 (o4 + (Int.toNat x) * 1) = some (.slice xA xL xC) ∧ ∃ b5 o5, xA = some ⟨b5, o5, none⟩ ∧ 0 ≤ x2 ∧ x2 < (xL : Nat) ∧ b5 ≠ hv2.size ∧ (∃ u, hcell hv11 b5 (o5 + (Int.toNat x2) * 1) = some u) ∧ hfree hv11 b5 (o5 + (Int.toNat x2) * 1) = true ∧ let hv12 : Heap := hset hv11 b5 (o5 + (Int.toNat x2) * 1) (.bool true)
                   ∃ b6 o6, (some (⟨hv5.size, 0, none⟩ : Addr)) = some ⟨b6, o6, none⟩ ∧ 0 ≤ x2 ∧ x2 < ((Int.toNat n) : Nat) ∧ ∃ (xA2 : Option Addr) (xL2 xC2 : Nat), hcell hv12 b6 (o6 + (Int.toNat x2) * 1) = some (.slice xA2 xL2 xC2) ∧ ∃ b7 o7, xA2 = some ⟨b7, o7, none⟩ ∧ 0 ≤ x ∧ x < (xL2 : Nat) ∧ b7 ≠ hv2.size ∧ (∃ u, hcell hv12 b7 (o7 + (Int.toNat x) * 1) = some u) ∧ hfree hv12 b7 (o7 + (Int.toNat x) * 1) = true ∧ let hv13 : Heap := hset hv12 b7 (o7 + (Int.toNat x) * 1) (.bool true)
                   Iv2 [.int .i64 (IntKind.i64.wrap (i + (1 : Int)))] hv13 ∧ m2 [.int .i64 (IntKind.i64.wrap (i + (1 : Int)))] hv13 < m2 [.int .i64 i] hv11)
                   (∃ (Iv3 : List Value → Heap → Prop) (m3 : List Value → Heap → Nat), Iv3 [.int .i64 3] hv11 ∧ -- loop 4: ['v'] []
                   ∀ v6 : Int, ∀ hv14, Iv3 [.int .i64 v6] hv14 →
                   cnd (decide (v6 < n))
                     (∃ b8 o8, raA = some ⟨b8, o8, none⟩ ∧ 0 ≤ (IntKind.i64.wrap ((IntKind.i64.wrap ((3 : Int) * v6)) - (6 : Int))) ∧ (IntKind.i64.wrap ((IntKind.i64.wrap ((3 : Int) * v6)) - (6 : Int))) < (raL : Nat) ∧ ∃ x3 : Int, hcell hv14 b8 (o8 + (Int.toNat (IntKind.i64.wrap ((IntKind.i64.wrap ((3 : Int) * v6)) - (6 : Int)))) * 2) = some (.int .i64 x3) ∧ ∃ x4 : Int, hcell hv14 b8 ((o8 + (Int.toNat (IntKind.i64.wrap ((IntKind.i64.wrap ((3 : Int) * v6)) - (6 : Int)))) * 2) + 1) = some (.int .i64 x4) ∧ let hv15 : Heap := hv14.push (.cells #[.int .i64 0, .int .i64 0] 35)
                     let hv16 : Heap := hset (hset hv15 hv14.size 0 (.int .i64 x3)) hv14.size (0 + 1) (.int .i64 x4)
                     ∃ b9 o9, raA = some ⟨b9, o9, none⟩ ∧ 0 ≤ (IntKind.i64.wrap ((IntKind.i64.wrap ((3 : Int) * v6)) - (5 : Int))) ∧ (IntKind.i64.wrap ((IntKind.i64.wrap ((3 : Int) * v6)) - (5 : Int))) < (raL : Nat) ∧ ∃ x5 : Int, hcell hv16 b9 (o9 + (Int.toNat (IntKind.i64.wrap ((IntKind.i64.wrap ((3 : Int) * v6)) - (5 : Int)))) * 2) = some (.int .i64 x5) ∧ ∃ x6 : Int, hcell hv16 b9 ((o9 + (Int.toNat (IntKind.i64.wrap ((IntKind.i64.wrap ((3 : Int) * v6)) - (5 : Int)))) * 2) + 1) = some (.int .i64 x6) ∧ let hv17 : Heap := hv16.push (.cells #[.int .i64 0, .int .i64 0] 35)
                     let hv18 : Heap := hset (hset hv17 hv16.size 0 (.int .i64 x5)) hv16.size (0 + 1) (.int .i64 x6)
                     ∃ b10 o10, raA = some ⟨b10, o10, none⟩ ∧ 0 ≤ (IntKind.i64.wrap ((IntKind.i64.wrap ((3 : Int) * v6)) - (4 : Int))) ∧ (IntKind.i64.wrap ((IntKind.i64.wrap ((3 : Int) * v6)) - (4 : Int))) < (raL : Nat) ∧ ∃ x7 : Int, hcell hv18 b10 (o10 + (Int.toNat (IntKind.i64.wrap ((IntKind.i64.wrap ((3 : Int) * v6)) - (4 : Int)))) * 2) = some (.int .i64 x7) ∧ ∃ x8 : Int, hcell hv18 b10 ((o10 + (Int.toNat (IntKind.i64.wrap ((IntKind.i64.wrap ((3 : Int) * v6)) - (4 : Int)))) * 2) + 1) = some (.int .i64 x8) ∧ let hv19 : Heap := hv18.push (.cells #[.int .i64 0, .int .i64 0] 35)
                     let hv20 : Heap := hset (hset hv19 hv18.size 0 (.int .i64 x7)) hv18.size (0 + 1) (.int .i64 x8)
                     cnd (x3 != v6)
                       (R (.bool false) hv20)
                       (cnd (x5 != v6)
                         (R (.bool false) hv20)
                         (cnd (x7 != v6)
                           (R (.bool false) hv20)
                           (cnd (decide (x4 ≥ v6))
                             (R (.bool false) hv20)
                             (cnd (decide (x6 ≥ v6))
                               (R (.bool false) hv20)
                               (cnd (decide (x8 ≥ v6))
                                 (R (.bool false) hv20)
                                 (∃ b11 o11, (some (⟨hv5.size, 0, none⟩ : Addr)) = some ⟨b11, o11, none⟩ ∧ 0 ≤ x4 ∧ x4 < ((Int.toNat n) : Nat) ∧ ∃ (xA3 : Option Addr) (xL3 xC3 : Nat), hcell hv20 b11 (o11 + (Int.toNat x4) * 1) = some (.slice xA3 xL3 xC3) ∧ ∃ b12 o12, xA3 = some ⟨b12, o12, none⟩ ∧ 0 ≤ x6 ∧ x6 < (xL3 : Nat) ∧ ∃ x9 : Bool, hcell hv20 b12 (o12 + (Int.toNat x6) * 1) = some (.bool x9) ∧ cnd (!x9)
                                   (R (.bool false) hv20)
                                   (∃ b13 o13, (some (⟨hv5.size, 0, none⟩ : Addr)) = some ⟨b13, o13, none⟩ ∧ 0 ≤ x6 ∧ x6 < ((Int.toNat n) : Nat) ∧ ∃ (xA4 : Option Addr) (xL4 xC4 : Nat), hcell hv20 b13 (o13 + (Int.toNat x6) * 1) = some (.slice xA4 xL4 xC4) ∧ ∃ b14 o14, xA4 = some ⟨b14, o14, none⟩ ∧ 0 ≤ x8 ∧ x8 < (xL4 : Nat) ∧ ∃ x10 : Bool, hcell hv20 b14 (o14 + (Int.toNat x8) * 1) = some (.bool x10) ∧ cnd (!x10)
                                     (R (.bool false) hv20)
                                     (∃ b15 o15, (some (⟨hv5.size, 0, none⟩ : Addr)) = some ⟨b15, o15, none⟩ ∧ 0 ≤ x8 ∧ x8 < ((Int.toNat n) : Nat) ∧ ∃ (xA5 : Option Addr) (xL5 xC5 : Nat), hcell hv20 b15 (o15 + (Int.toNat x8) * 1) = some (.slice xA5 xL5 xC5) ∧ ∃ b16 o16, xA5 = some ⟨b16, o16, none⟩ ∧ 0 ≤ x4 ∧ x4 < (xL5 : Nat) ∧ ∃ x11 : Bool, hcell hv20 b16 (o16 + (Int.toNat x4) * 1) = some (.bool x11) ∧ cnd (!x11)
                                       (R (.bool false) hv20)
                                       (Iv3 [.int .i64 (IntKind.i64.wrap (v6 + (1 : Int)))] hv20 ∧ m3 [.int .i64 (IntKind.i64.wrap (v6 + (1 : Int)))] hv20 < m3 [.int .i64 v6] hv14))))))))))
                     (R (.bool true) hv14))))))
         let k2 : Prop :=
           (callX Try.prog 29 #[.agg #[.int .i64 ra, .slice raA raL raC]] hv4 [hv2.size] fun v4 hv6 =>
           ∃ r7 : Int, ∃ r8 : Int, ∃ r9 : Int, ∃ r10 : Int, ∃ r11 : Bool, v4 = .agg #[.int .i64 r7, .int .i64 r8, .int .i64 r9, .int .i64 r10, .bool r11] ∧
           cnd (!r11)
             (R (.bool false) hv6)
             (0 ≤ n ∧ n ≤ n ∧ ((24 : Nat) : Int) * n ≤ 281474976710656 ∧ n ≤ 9223372036854775807 ∧ let hv21 : Heap := hv6.push (.cells (madeCells (List.toArray [.slice none 0 0]) (Int.toNat n * 1)) 34)
             ∃ (Iv4 : List Value → Heap → Prop) (m4 : List Value → Heap → Nat), Iv4 [.int .i64 0] hv21 ∧ -- loop 0: ['v'] []
             ∀ v7 : Int, ∀ hv22, Iv4 [.int .i64 v7] hv22 →
             cnd (decide (v7 < n))
               (0 ≤ n ∧ n ≤ n ∧ ((1 : Nat) : Int) * n ≤ 281474976710656 ∧ n ≤ 9223372036854775807 ∧ let hv23 : Heap := hv22.push (.cells (madeCells (List.toArray [.bool false]) (Int.toNat n * 1)) 4)
               ∃ b17 o17, (some (⟨hv6.size, 0, none⟩ : Addr)) = some ⟨b17, o17, none⟩ ∧ 0 ≤ v7 ∧ v7 < ((Int.toNat n) : Nat) ∧ b17 ≠ hv2.size ∧ (∃ u, hcell hv23 b17 (o17 + (Int.toNat v7) * 1) = some u) ∧ hfree hv23 b17 (o17 + (Int.toNat v7) * 1) = true ∧ let hv24 : Heap := hset hv23 b17 (o17 + (Int.toNat v7) * 1) (.slice (some (⟨hv22.size, 0, none⟩ : Addr)) (Int.toNat n) (Int.toNat n))
               Iv4 [.int .i64 (IntKind.i64.wrap (v7 + (1 : Int)))] hv24 ∧ m4 [.int .i64 (IntKind.i64.wrap (v7 + (1 : Int)))] hv24 < m4 [.int .i64 v7] hv22)
               (∃ (Iv5 : List Value → Heap → Prop) (m5 : List Value → Heap → Nat), Iv5 [.int .i64 0] hv22 ∧ -- loop 2: ['i'] []
               ∀ i2 : Int, ∀ hv25, Iv5 [.int .i64 i2] hv25 →
               cnd (decide (i2 < ((raL : Nat) : Int)))
                 (∃ b18 o18, raA = some ⟨b18, o18, none⟩ ∧ 0 ≤ i2 ∧ i2 < (raL : Nat) ∧ ∃ x12 : Int, hcell hv25 b18 ((o18 + (Int.toNat i2) * 2) + 0) = some (.int .i64 x12) ∧ ∃ b19 o19, raA = some ⟨b19, o19, none⟩ ∧ 0 ≤ i2 ∧ i2 < (raL : Nat) ∧ ∃ x13 : Int, hcell hv25 b19 ((o19 + (Int.toNat i2) * 2) + 1) = some (.int .i64 x13) ∧ ∃ b20 o20, (some (⟨hv6.size, 0, none⟩ : Addr)) = some ⟨b20, o20, none⟩ ∧ 0 ≤ x12 ∧ x12 < ((Int.toNat n) : Nat) ∧ ∃ (xA6 : Option Addr) (xL6 xC6 : Nat), hcell hv25 b20 (o20 + (Int.toNat x12) * 1) = some (.slice xA6 xL6 xC6) ∧ ∃ b21 o21, xA6 = some ⟨b21, o21, none⟩ ∧ 0 ≤ x13 ∧ x13 < (xL6 : Nat) ∧ b21 ≠ hv2.size ∧ (∃ u, hcell hv25 b21 (o21 + (Int.toNat x13) * 1) = some u) ∧ hfree hv25 b21 (o21 + (Int.toNat x13) * 1) = true ∧ let hv26 : Heap := hset hv25 b21 (o21 + (Int.toNat x13) * 1) (.bool true)
                 ∃ b22 o22, (some (⟨hv6.size, 0, none⟩ : Addr)) = some ⟨b22, o22, none⟩ ∧ 0 ≤ x13 ∧ x13 < ((Int.toNat n) : Nat) ∧ ∃ (xA7 : Option Addr) (xL7 xC7 : Nat), hcell hv26 b22 (o22 + (Int.toNat x13) * 1) = some (.slice xA7 xL7 xC7) ∧ ∃ b23 o23, xA7 = some ⟨b23, o23, none⟩ ∧ 0 ≤ x12 ∧ x12 < (xL7 : Nat) ∧ b23 ≠ hv2.size ∧ (∃ u, hcell hv26 b23 (o23 + (Int.toNat x12) * 1) = some u) ∧ hfree hv26 b23 (o23 + (Int.toNat x12) * 1) = true ∧ let hv27 : Heap := hset hv26 b23 (o23 + (Int.toNat x12) * 1) (.bool true)
                 Iv5 [.int .i64 (IntKind.i64.wrap (i2 + (1 : Int)))] hv27 ∧ m5 [.int .i64 (IntKind.i64.wrap (i2 + (1 : Int)))] hv27 < m5 [.int .i64 i2] hv25)
                 (∃ (Iv6 : List Value → Heap → Prop) (m6 : List Value → Heap → Nat), Iv6 [.int .i64 3] hv25 ∧ -- loop 4: ['v'] []
                 ∀ v8 : Int, ∀ hv28, Iv6 [.int .i64 v8] hv28 →
                 cnd (decide (v8 < n))
                   (∃ b24 o24, raA = some ⟨b24, o24, none⟩ ∧ 0 ≤ (IntKind.i64.wrap ((IntKind.i64.wrap ((3 : Int) * v8)) - (6 : Int))) ∧ (IntKind.i64.wrap ((IntKind.i64.wrap ((3 : Int) * v8)) - (6 : Int))) < (raL : Nat) ∧ ∃ x14 : Int, hcell hv28 b24 (o24 + (Int.toNat (IntKind.i64.wrap ((IntKind.i64.wrap ((3 : Int) * v8)) - (6 : Int)))) * 2) = some (.int .i64 x14) ∧ ∃ x15 : Int, hcell hv28 b24 ((o24 + (Int.toNat (IntKind.i64.wrap ((IntKind.i64.wrap ((3 : Int) * v8)) - (6 : Int)))) * 2) + 1) = some (.int .i64 x15) ∧ let hv29 : Heap := hv28.push (.cells #[.int .i64 0, .int .i64 0] 35)
                   let hv30 : Heap := hset (hset hv29 hv28.size 0 (.int .i64 x14)) hv28.size (0 + 1) (.int .i64 x15)
                   ∃ b25 o25, raA = some ⟨b25, o25, none⟩ ∧ 0 ≤ (IntKind.i64.wrap ((IntKind.i64.wrap ((3 : Int) * v8)) - (5 : Int))) ∧ (IntKind.i64.wrap ((IntKind.i64.wrap ((3 : Int) * v8)) - (5 : Int))) < (raL : Nat) ∧ ∃ x16 : Int, hcell hv30 b25 (o25 + (Int.toNat (IntKind.i64.wrap ((IntKind.i64.wrap ((3 : Int) * v8)) - (5 : Int)))) * 2) = some (.int .i64 x16) ∧ ∃ x17 : Int, hcell hv30 b25 ((o25 + (Int.toNat (IntKind.i64.wrap ((IntKind.i64.wrap ((3 : Int) * v8)) - (5 : Int)))) * 2) + 1) = some (.int .i64 x17) ∧ let hv31 : Heap := hv30.push (.cells #[.int .i64 0, .int .i64 0] 35)
                   let hv32 : Heap := hset (hset hv31 hv30.size 0 (.int .i64 x16)) hv30.size (0 + 1) (.int .i64 x17)
                   ∃ b26 o26, raA = some ⟨b26, o26, none⟩ ∧ 0 ≤ (IntKind.i64.wrap ((IntKind.i64.wrap ((3 : Int) * v8)) - (4 : Int))) ∧ (IntKind.i64.wrap ((IntKind.i64.wrap ((3 : Int) * v8)) - (4 : Int))) < (raL : Nat) ∧ ∃ x18 : Int, hcell hv32 b26 (o26 + (Int.toNat (IntKind.i64.wrap ((IntKind.i64.wrap ((3 : Int) * v8)) - (4 : Int)))) * 2) = some (.int .i64 x18) ∧ ∃ x19 : Int, hcell hv32 b26 ((o26 + (Int.toNat (IntKind.i64.wrap ((IntKind.i64.wrap ((3 : Int) * v8)) - (4 : Int)))) * 2) + 1) = some (.int .i64 x19) ∧ let hv33 : Heap := hv32.push (.cells #[.int .i64 0, .int .i64 0] 35)
                   let hv34 : Heap := hset (hset hv33 hv32.size 0 (.int .i64 x18)) hv32.size (0 + 1) (.int .i64 x19)
                   cnd (x14 != v8)
                     (R (.bool false) hv34)
                     (cnd (x16 != v8)
                       (R (.bool false) hv34)
                       (cnd (x18 != v8)
                         (R (.bool false) hv34)
                         (cnd (decide (x15 ≥ v8))
                           (R (.bool false) hv34)
                           (cnd (decide (x17 ≥ v8))
                             (R (.bool false) hv34)
                             (cnd (decide (x19 ≥ v8))
                               (R (.bool false) hv34)
                               (∃ b27 o27, (some (⟨hv6.size, 0, none⟩ : Addr)) = some ⟨b27, o27, none⟩ ∧ 0 ≤ x15 ∧ x15 < ((Int.toNat n) : Nat) ∧ ∃ (xA8 : Option Addr) (xL8 xC8 : Nat), hcell hv34 b27 (o27 + (Int.toNat x15) * 1) = some (.slice xA8 xL8 xC8) ∧ ∃ b28 o28, xA8 = some ⟨b28, o28, none⟩ ∧ 0 ≤ x17 ∧ x17 < (xL8 : Nat) ∧ ∃ x20 : Bool, hcell hv34 b28 (o28 + (Int.toNat x17) * 1) = some (.bool x20) ∧ cnd (!x20)
                                 (R (.bool false) hv34)
                                 (∃ b29 o29, (some (⟨hv6.size, 0, none⟩ : Addr)) = some ⟨b29, o29, none⟩ ∧ 0 ≤ x17 ∧ x17 < ((Int.toNat n) : Nat) ∧ ∃ (xA9 : Option Addr) (xL9 xC9 : Nat), hcell hv34 b29 (o29 + (Int.toNat x17) * 1) = some (.slice xA9 xL9 xC9) ∧ ∃ b30 o30, xA9 = some ⟨b30, o30, none⟩ ∧ 0 ≤ x19 ∧ x19 < (xL9 : Nat) ∧ ∃ x21 : Bool, hcell hv34 b30 (o30 + (Int.toNat x19) * 1) = some (.bool x21) ∧ cnd (!x21)
                                   (R (.bool false) hv34)
                                   (∃ b31 o31, (some (⟨hv6.size, 0, none⟩ : Addr)) = some ⟨b31, o31, none⟩ ∧ 0 ≤ x19 ∧ x19 < ((Int.toNat n) : Nat) ∧ ∃ (xA10 : Option Addr) (xL10 xC10 : Nat), hcell hv34 b31 (o31 + (Int.toNat x19) * 1) = some (.slice xA10 xL10 xC10) ∧ ∃ b32 o32, xA10 = some ⟨b32, o32, none⟩ ∧ 0 ≤ x15 ∧ x15 < (xL10 : Nat) ∧ ∃ x22 : Bool, hcell hv34 b32 (o32 + (Int.toNat x15) * 1) = some (.bool x22) ∧ cnd (!x22)
                                     (R (.bool false) hv34)
                                     (Iv6 [.int .i64 (IntKind.i64.wrap (v8 + (1 : Int)))] hv34 ∧ m6 [.int .i64 (IntKind.i64.wrap (v8 + (1 : Int)))] hv34 < m6 [.int .i64 v8] hv28))))))))))
                   (R (.bool true) hv28)))))
         cnd (rb != (0 : Int))
           (R (.bool false) hv4)
           (cnd (ra != n)
              (R (.bool false) hv4)
              (cnd (decide (n > (3 : Int)))
                (cnd (((raL : Nat) : Int) != (IntKind.i64.wrap ((IntKind.i64.wrap ((3 : Int) * n)) - (6 : Int))))
                   (R (.bool false) hv4)
                   (cnd (n == (3 : Int))
                     (k)
                     (k2)))
                (cnd (n == (3 : Int))
                   (k)
                   (k2)))))))

theorem calls3 {h : Heap} {R : Value → Heap → Prop} (n : Int) (seed : Int) (H : S3 n seed h R) : CallsH Try.prog 3 #[.int .i64 n, .int .u64 seed] h R := by
  have e : S3 n seed h R = FX (envX [5, 13, 14, 15] 206) { loops := [(0, ⟨[0, 5, 7], [8], [5], []⟩), (2, ⟨[0, 5, 7], [9], [5], []⟩), (4, ⟨[0, 5, 7], [12], [5], []⟩)], joins := [], blocks := [], draws := [(16, ⟨14, false⟩), (25, ⟨70, false⟩)] } Try.f3 (Try.f3.body.getD .skip) [.int .i64 n, .int .u64 seed] h R := by kernel_rfl
  exact calls_of_FX (envX_ok _ _) Try.func3 (by kernel_rfl) (by kernel_rfl) (by kernel_rfl) (e ▸ H)

/-- tracery/tracerylaw5.MakerShapes -/
def S4 (n : Int) (m : Int) (h : Heap) (R : Value → Heap → Prop) : Prop :=
  callX Try.prog 27 #[] h [] fun v hv =>
  ∃ r : Bool, v = .bool r ∧
  cnd (!r)
    (R (.bool false) hv)
    (cnd (decide (n < (3 : Int)))
      (R (.bool true) hv)
      (cnd (decide (n > (40 : Int)))
         (R (.bool true) hv)
         (cnd (decide (m < (1 : Int)))
            (R (.bool true) hv)
            (cnd (decide (m > (20 : Int)))
               (R (.bool true) hv)
               (callX Try.prog 30 #[.int .i64 n] hv [] fun v2 hv2 =>
               ∃ ra : Int, ∃ (raA : Option Addr) (raL raC : Nat), ∃ rb : Int, v2 = .tuple #[.agg #[.int .i64 ra, .slice raA raL raC], .int .i64 rb] ∧
               let hv3 : Heap := hv2.push (.cells #[.int .i64 0, .slice none 0 0] 26)
               let hv4 : Heap := hset (hset hv3 hv2.size 0 (.int .i64 ra)) hv2.size (0 + 1) (.slice raA raL raC)
               callX Try.prog 31 #[.int .i64 n] hv4 [hv2.size] fun v3 hv5 =>
               ∃ ra2 : Int, ∃ (raA2 : Option Addr) (raL2 raC2 : Nat), ∃ rb2 : Int, v3 = .tuple #[.agg #[.int .i64 ra2, .slice raA2 raL2 raC2], .int .i64 rb2] ∧
               let hv6 : Heap := hv5.push (.cells #[.int .i64 0, .slice none 0 0] 26)
               let hv7 : Heap := hset (hset hv6 hv5.size 0 (.int .i64 ra2)) hv5.size (0 + 1) (.slice raA2 raL2 raC2)
               callX Try.prog 32 #[.int .i64 n] hv7 [hv5.size, hv2.size] fun v4 hv8 =>
               ∃ ra3 : Int, ∃ (raA3 : Option Addr) (raL3 raC3 : Nat), ∃ rb3 : Int, v4 = .tuple #[.agg #[.int .i64 ra3, .slice raA3 raL3 raC3], .int .i64 rb3] ∧
               let hv9 : Heap := hv8.push (.cells #[.int .i64 0, .slice none 0 0] 26)
               let hv10 : Heap := hset (hset hv9 hv8.size 0 (.int .i64 ra3)) hv8.size (0 + 1) (.slice raA3 raL3 raC3)
               callX Try.prog 33 #[.int .i64 n] hv10 [hv8.size, hv5.size, hv2.size] fun v5 hv11 =>
               ∃ ra4 : Int, ∃ (raA4 : Option Addr) (raL4 raC4 : Nat), ∃ rb4 : Int, v5 = .tuple #[.agg #[.int .i64 ra4, .slice raA4 raL4 raC4], .int .i64 rb4] ∧
               let hv12 : Heap := hv11.push (.cells #[.int .i64 0, .slice none 0 0] 26)
               let hv13 : Heap := hset (hset hv12 hv11.size 0 (.int .i64 ra4)) hv11.size (0 + 1) (.slice raA4 raL4 raC4)
               callX Try.prog 34 #[.int .i64 n, .int .i64 m] hv13 [hv11.size, hv8.size, hv5.size, hv2.size] fun v6 hv14 =>
               ∃ ra5 : Int, ∃ (raA5 : Option Addr) (raL5 raC5 : Nat), ∃ rb5 : Int, v6 = .tuple #[.agg #[.int .i64 ra5, .slice raA5 raL5 raC5], .int .i64 rb5] ∧
               let hv15 : Heap := hv14.push (.cells #[.int .i64 0, .slice none 0 0] 26)
               let hv16 : Heap := hset (hset hv15 hv14.size 0 (.int .i64 ra5)) hv14.size (0 + 1) (.slice raA5 raL5 raC5)
               callX Try.prog 35 #[.int .i64 n, .int .i64 m] hv16 [hv14.size, hv11.size, hv8.size, hv5.size, hv2.size] fun v7 hv17 =>
               ∃ ra6 : Int, ∃ (raA6 : Option Addr) (raL6 raC6 : Nat), ∃ rb6 : Int, v7 = .tuple #[.agg #[.int .i64 ra6, .slice raA6 raL6 raC6], .int .i64 rb6] ∧
               let hv18 : Heap := hv17.push (.cells #[.int .i64 0, .slice none 0 0] 26)
               let hv19 : Heap := hset (hset hv18 hv17.size 0 (.int .i64 ra6)) hv17.size (0 + 1) (.slice raA6 raL6 raC6)
               callX Try.prog 29 #[.agg #[.int .i64 ra3, .slice raA3 raL3 raC3]] hv19 [hv17.size, hv14.size, hv11.size, hv8.size, hv5.size, hv2.size] fun v8 hv20 =>
               ∃ r2 : Int, ∃ r3 : Int, ∃ r4 : Int, ∃ r5 : Int, ∃ r6 : Bool, v8 = .agg #[.int .i64 r2, .int .i64 r3, .int .i64 r4, .int .i64 r5, .bool r6] ∧
               let hv21 : Heap := hv20.push (.cells #[.int .i64 0, .int .i64 0, .int .i64 0, .int .i64 0, .bool false] 31)
               let hv22 : Heap := hset (hset (hset (hset (hset hv21 hv20.size 0 (.int .i64 r2)) hv20.size (0 + 1) (.int .i64 r3)) hv20.size ((0 + 1) + 1) (.int .i64 r4)) hv20.size (((0 + 1) + 1) + 1) (.int .i64 r5)) hv20.size ((((0 + 1) + 1) + 1) + 1) (.bool r6)
               let hv23 : Heap := hv22.push (.cells #[.int .i64 ra, .slice raA raL raC, .int .i64 ra2, .slice raA2 raL2 raC2, .int .i64 ra3, .slice raA3 raL3 raC3, .int .i64 ra4, .slice raA4 raL4 raC4, .int .i64 ra5, .slice raA5 raL5 raC5, .int .i64 ra6, .slice raA6 raL6 raC6] 26)
               ∃ (Iv : List Value → Heap → Prop) (m2 : List Value → Heap → Nat), Iv [.int .i64 0] hv23 ∧ -- loop 0: ['i'] []
               ∀ i : Int, ∀ hv24, Iv [.int .i64 i] hv24 →
               cnd (decide (i < ((6 : Nat) : Int)))
                 (∃ b o, (some (⟨hv22.size, 0, none⟩ : Addr)) = some ⟨b, o, none⟩ ∧ 0 ≤ i ∧ i < (6 : Nat) ∧ ∃ x : Int, hcell hv24 b (o + (Int.toNat i) * 2) = some (.int .i64 x) ∧ ∃ (xA : Option Addr) (xL xC : Nat), hcell hv24 b ((o + (Int.toNat i) * 2) + 1) = some (.slice xA xL xC) ∧ callX Try.prog 36 #[.agg #[.int .i64 x, .slice xA xL xC], .slice none 0 0, .slice none 0 0] hv24 [hv2.size, hv5.size, hv8.size, hv11.size, hv14.size, hv17.size, hv20.size] fun v9 hv25 =>
                 ∃ (raA7 : Option Addr) (raL7 raC7 : Nat), ∃ rb7 : Int, v9 = .tuple #[.slice raA7 raL7 raC7, .int .i64 rb7] ∧
                 cnd (rb7 != (1 : Int))
                   (R (.bool false) hv25)
                   (∃ b2 o2, (some (⟨hv22.size, 0, none⟩ : Addr)) = some ⟨b2, o2, none⟩ ∧ 0 ≤ i ∧ i < (6 : Nat) ∧ ∃ x2 : Int, hcell hv25 b2 (o2 + (Int.toNat i) * 2) = some (.int .i64 x2) ∧ ∃ (xA2 : Option Addr) (xL2 xC2 : Nat), hcell hv25 b2 ((o2 + (Int.toNat i) * 2) + 1) = some (.slice xA2 xL2 xC2) ∧ callX Try.prog 29 #[.agg #[.int .i64 x2, .slice xA2 xL2 xC2]] hv25 [hv2.size, hv5.size, hv8.size, hv11.size, hv14.size, hv17.size, hv20.size] fun v10 hv26 =>
                   ∃ r7 : Int, ∃ r8 : Int, ∃ r9 : Int, ∃ r10 : Int, ∃ r11 : Bool, v10 = .agg #[.int .i64 r7, .int .i64 r8, .int .i64 r9, .int .i64 r10, .bool r11] ∧
                   cnd (!r11)
                     (R (.bool false) hv26)
                     (Iv [.int .i64 (IntKind.i64.wrap (i + (1 : Int)))] hv26 ∧ m2 [.int .i64 (IntKind.i64.wrap (i + (1 : Int)))] hv26 < m2 [.int .i64 i] hv24)))
                 (cnd (((raL : Nat) : Int) == n)
                   (cnd (((raL2 : Nat) : Int) == (IntKind.i64.wrap ((2 : Int) * n)))
                      (cnd (ra2 == (IntKind.i64.wrap (n + (1 : Int))))
                         (cnd (((raL3 : Nat) : Int) == (IntKind.i64.wrap ((3 : Int) * n)))
                            (cnd (r4 == (3 : Int))
                               (cnd (r5 == (3 : Int))
                                  ((2 : Int) ≠ 0 ∧ cnd (((raL4 : Nat) : Int) == (IntKind.i64.wrap (Int.tdiv (IntKind.i64.wrap (n * (IntKind.i64.wrap (n - (1 : Int))))) (2 : Int))))
                                      (cnd (((raL5 : Nat) : Int) == (IntKind.i64.wrap (n * m)))
                                         (R (.bool (((raL6 : Nat) : Int) == (IntKind.i64.wrap ((IntKind.i64.wrap ((IntKind.i64.wrap ((IntKind.i64.wrap ((2 : Int) * n)) * m)) - n)) - m)))) hv24)
                                         (R (.bool false) hv24))
                                      (R (.bool false) hv24))
                                  (R (.bool false) hv24))
                               (R (.bool false) hv24))
                            (R (.bool false) hv24))
                         (R (.bool false) hv24))
                      (R (.bool false) hv24))
                   (R (.bool false) hv24)))))))

theorem calls4 {h : Heap} {R : Value → Heap → Prop} (n : Int) (m : Int) (H : S4 n m h R) : CallsH Try.prog 4 #[.int .i64 n, .int .i64 m] h R := by
  have e : S4 n m h R = FX (envX [5, 7, 9, 11, 13, 15, 17] 176) { loops := [(0, ⟨[0, 1, 5, 7, 9, 11, 13, 15, 17, 18], [19], [5, 7, 9, 11, 13, 15, 17], []⟩)], joins := [], blocks := [], draws := [] } Try.f4 (Try.f4.body.getD .skip) [.int .i64 n, .int .i64 m] h R := by kernel_rfl
  exact calls_of_FX (envX_ok _ _) Try.func4 (by kernel_rfl) (by kernel_rfl) (by kernel_rfl) (e ▸ H)

/-- tracery/tracerylaw5.MakerAll -/
def S5 (a : Int) (b : Int) (seed : Int) (h : Heap) (R : Value → Heap → Prop) : Prop :=
  callX Try.prog 27 #[] h [] fun v hv =>
  ∃ r : Bool, v = .bool r ∧
  cnd (!r)
    (R (.bool false) hv)
    (callX Try.prog 37 #[] hv [] fun v2 hv2 =>
    ∃ (rA : Option Addr) (rL rC : Nat), v2 = .slice rA rL rC ∧
    ∃ (Iv : List Value → Heap → Prop) (m : List Value → Heap → Nat), Iv [.int .i64 0] hv2 ∧ -- loop 0: ['i'] []
    ∀ i : Int, ∀ hv3, Iv [.int .i64 i] hv3 →
    cnd (decide (i < ((rL : Nat) : Int)))
      (∃ b2 o, rA = some ⟨b2, o, none⟩ ∧ 0 ≤ i ∧ i < (rL : Nat) ∧ ∃ x : ByteArray, hcell hv3 b2 (o + (Int.toNat i) * 1) = some (.string x) ∧ callX Try.prog 38 #[.string x, .int .i64 a, .int .i64 b, .int .u64 seed] hv3 [] fun v3 hv4 =>
      ∃ ra : Int, ∃ (raA : Option Addr) (raL raC : Nat), ∃ rb : Int, v3 = .tuple #[.agg #[.int .i64 ra, .slice raA raL raC], .int .i64 rb] ∧
      let hv5 : Heap := hv4.push (.cells #[.int .i64 0, .slice none 0 0] 26)
      let hv6 : Heap := hset (hset hv5 hv4.size 0 (.int .i64 ra)) hv4.size (0 + 1) (.slice raA raL raC)
      ∃ (Iv2 : List Value → Heap → Prop) (m2 : List Value → Heap → Nat), Iv2 [.int .i64 0] hv6 ∧ -- loop 2: ['turn'] []
      ∀ turn : Int, ∀ hv7, Iv2 [.int .i64 turn] hv7 →
      cnd (decide (turn < (2 : Int)))
        (∃ b3 o2, rA = some ⟨b3, o2, none⟩ ∧ 0 ≤ i ∧ i < (rL : Nat) ∧ ∃ x2 : ByteArray, hcell hv7 b3 (o2 + (Int.toNat i) * 1) = some (.string x2) ∧ callX Try.prog 39 #[.string x2, .int .i64 a, .int .i64 b, .int .u64 seed] hv7 [hv4.size] fun v4 hv8 =>
        ∃ ra2 : Int, ∃ (raA2 : Option Addr) (raL2 raC2 : Nat), ∃ rb2 : Int, v4 = .tuple #[.agg #[.int .i64 ra2, .slice raA2 raL2 raC2], .int .i64 rb2] ∧
        let hv9 : Heap := hv8.push (.cells #[.int .i64 0, .slice none 0 0] 26)
        let hv10 : Heap := hset (hset hv9 hv8.size 0 (.int .i64 ra2)) hv8.size (0 + 1) (.slice raA2 raL2 raC2)
        cnd (rb2 != rb)
          (R (.bool false) hv10)
          (callX Try.prog 40 #[.agg #[.int .i64 ra2, .slice raA2 raL2 raC2], .agg #[.int .i64 ra, .slice raA raL raC]] hv10 [hv8.size, hv4.size] fun v5 hv11 =>
          ∃ r2 : Bool, v5 = .bool r2 ∧
          cnd (!r2)
            (R (.bool false) hv11)
            (callX Try.prog 41 #[.agg #[.int .i64 ra2, .slice raA2 raL2 raC2]] hv11 [hv8.size, hv4.size] fun v6 hv12 =>
            v6 = .tuple #[] ∧
            Iv2 [.int .i64 (IntKind.i64.wrap (turn + (1 : Int)))] hv12 ∧ m2 [.int .i64 (IntKind.i64.wrap (turn + (1 : Int)))] hv12 < m2 [.int .i64 turn] hv7)))
        (Iv [.int .i64 (IntKind.i64.wrap (i + (1 : Int)))] hv7 ∧ m [.int .i64 (IntKind.i64.wrap (i + (1 : Int)))] hv7 < m [.int .i64 i] hv3))
      (R (.bool true) hv3))

theorem calls5 {h : Heap} {R : Value → Heap → Prop} (a : Int) (b : Int) (seed : Int) (H : S5 a b seed h R) : CallsH Try.prog 5 #[.int .i64 a, .int .i64 b, .int .u64 seed] h R := by
  have e : S5 a b seed h R = FX (envX [9, 12] 60) { loops := [(0, ⟨[0, 1, 2, 7], [8], [], []⟩), (2, ⟨[0, 1, 2, 7, 8, 9, 10], [11], [9], []⟩)], joins := [], blocks := [], draws := [] } Try.f5 (Try.f5.body.getD .skip) [.int .i64 a, .int .i64 b, .int .u64 seed] h R := by kernel_rfl
  exact calls_of_FX (envX_ok _ _) Try.func5 (by kernel_rfl) (by kernel_rfl) (by kernel_rfl) (e ▸ H)

/-- tracery/tracerylaw5.begun -/
def S27  (h : Heap) (R : Value → Heap → Prop) : Prop :=
  callX Try.prog 30 #[.int .i64 3] h [] fun v hv =>
  ∃ ra : Int, ∃ (raA : Option Addr) (raL raC : Nat), ∃ rb : Int, v = .tuple #[.agg #[.int .i64 ra, .slice raA raL raC], .int .i64 rb] ∧
  let hv2 : Heap := hv.push (.cells #[.int .i64 0, .slice none 0 0] 26)
  let hv3 : Heap := hset (hset hv2 hv.size 0 (.int .i64 ra)) hv.size (0 + 1) (.slice raA raL raC)
  callX Try.prog 35 #[.int .i64 2, .int .i64 2] hv3 [hv.size] fun v2 hv4 =>
  ∃ ra2 : Int, ∃ (raA2 : Option Addr) (raL2 raC2 : Nat), ∃ rb2 : Int, v2 = .tuple #[.agg #[.int .i64 ra2, .slice raA2 raL2 raC2], .int .i64 rb2] ∧
  let hv5 : Heap := hv4.push (.cells #[.int .i64 0, .slice none 0 0] 26)
  let hv6 : Heap := hset (hset hv5 hv4.size 0 (.int .i64 ra2)) hv4.size (0 + 1) (.slice raA2 raL2 raC2)
  callX Try.prog 33 #[.int .i64 79] hv6 [hv4.size, hv.size] fun v3 hv7 =>
  ∃ ra3 : Int, ∃ (raA3 : Option Addr) (raL3 raC3 : Nat), ∃ rb3 : Int, v3 = .tuple #[.agg #[.int .i64 ra3, .slice raA3 raL3 raC3], .int .i64 rb3] ∧
  let hv8 : Heap := hv7.push (.cells #[.int .i64 0, .slice none 0 0] 26)
  let hv9 : Heap := hset (hset hv8 hv7.size 0 (.int .i64 ra3)) hv7.size (0 + 1) (.slice raA3 raL3 raC3)
  cnd (((raL : Nat) : Int) == (3 : Int))
    (cnd (rb == (0 : Int))
       (cnd (((raL2 : Nat) : Int) == (4 : Int))
          (cnd (rb2 == (0 : Int))
             (R (.bool (rb3 == (3 : Int))) hv9)
             (R (.bool false) hv9))
          (R (.bool false) hv9))
       (R (.bool false) hv9))
    (R (.bool false) hv9)

theorem calls27 {h : Heap} {R : Value → Heap → Prop}  (H : S27  h R) : CallsH Try.prog 27 #[] h R := by
  have e : S27  h R = FX (envX [1, 3, 5] 41) { loops := [], joins := [], blocks := [], draws := [] } Try.f27 (Try.f27.body.getD .skip) [] h R := by kernel_rfl
  exact calls_of_FX (envX_ok _ _) Try.func27 (by kernel_rfl) (by kernel_rfl) (by kernel_rfl) (e ▸ H)

/-- tracery/maker.Stack -/
def S28 (n : Int) (seed : Int) (h : Heap) (R : Value → Heap → Prop) : Prop :=
  let hv : Heap := h.push (.cells #[.int .i64 n] 3)
  let hv2 : Heap := hv.push (.cells #[.int .u64 seed] 22)
  let hv3 : Heap := hv2.push (.cells #[.int .i64 0, .slice none 0 0] 26)
  ∃ x : Int, hcell hv3 h.size 0 = some (.int .i64 x) ∧ ∃ x2 : Int, hcell hv3 h.size 0 = some (.int .i64 x2) ∧ ∃ x3 : Int, hcell hv3 h.size 0 = some (.int .i64 x3) ∧ ∃ x4 : Int, hcell hv3 h.size 0 = some (.int .i64 x4) ∧ let hv4 : Heap := hv3.push (.cells #[.int .i64 x] 3)
  Fr [] hv3 hv4 ∧
  callX Try.prog 113 #[.int .i64 3, .slice (some (⟨hv3.size, 0, none⟩ : Addr)) 1 1, .int .i64 x2, .int .i64 (IntKind.i64.wrap ((IntKind.i64.wrap ((3 : Int) * (if (3072 : Int) < x3 then (3072 : Int) else x3))) - (6 : Int)))] hv4 [hv2.size] fun v hv5 =>
  ∃ r : Int, v = .int .i64 r ∧
  Fr [] hv3 hv5 ∧
  callX Try.prog 112 #[.int .i64 r, .int .i64 x4, .func (.func 114) #[] #[.pointer (some (⟨hv.size, 0, none⟩ : Addr)), .pointer (some (⟨h.size, 0, none⟩ : Addr))]] hv5 [hv2.size] fun v2 hv6 =>
  ∃ ra : Int, ∃ (raA : Option Addr) (raL raC : Nat), ∃ rb : Int, v2 = .tuple #[.agg #[.int .i64 ra, .slice raA raL raC], .int .i64 rb] ∧
  Fr [] hv3 hv6 ∧
  let hv7 : Heap := hset (hset hv6 hv2.size 0 (.int .i64 ra)) hv2.size (0 + 1) (.slice raA raL raC)
  R (.tuple #[.agg #[.int .i64 ra, .slice raA raL raC], .int .i64 rb]) hv7

theorem calls28 {h : Heap} {R : Value → Heap → Prop} (n : Int) (seed : Int) (H : S28 n seed h R) : CallsH Try.prog 28 #[.int .i64 n, .int .u64 seed] h R := by
  have e : S28 n seed h R = FX (envX [4] 19) { loops := [], joins := [], blocks := [], draws := [(1, ⟨13, false⟩)] } Try.f28 (Try.f28.body.getD .skip) [.int .i64 n, .int .u64 seed] h R := by kernel_rfl
  exact calls_of_FX (envX_ok _ _) Try.func28 (by kernel_rfl) (by kernel_rfl) (by kernel_rfl) (e ▸ H)

/-- tracery/traceryref3.Look -/
def S29 (g : Int) (gA : Option Addr) (gL gC : Nat) (h : Heap) (R : Value → Heap → Prop) : Prop :=
  let hv : Heap := h.push (.cells #[.int .i64 g, .slice gA gL gC] 26)
  let hv2 : Heap := hv.push (.cells #[.int .i64 0, .int .i64 0, .int .i64 0, .int .i64 0, .bool false] 31)
  let hv3 : Heap := hv2.push (.cells #[.int .i64 0, .int .i64 0, .int .i64 0, .int .i64 0, .bool false] 31)
  ∃ (Iv : List Value → Heap → Prop) (m : List Value → Heap → Nat), Iv [.int .i64 0, .int .i64 0, .int .i64 0, .int .i64 0, .int .i64 0, .bool false] hv3 ∧ -- loop 0: ['i'] [3]
  ∀ i : Int, ∀ c0 : Int, ∀ c1 : Int, ∀ c2 : Int, ∀ c3 : Int, ∀ c4 : Bool, ∀ hv4, Iv [.int .i64 i, .int .i64 c0, .int .i64 c1, .int .i64 c2, .int .i64 c3, .bool c4] hv4 →
  cnd (decide (i < ((gL : Nat) : Int)))
    (∃ b o, gA = some ⟨b, o, none⟩ ∧ 0 ≤ i ∧ i < (gL : Nat) ∧ ∃ x : Int, hcell hv4 b ((o + (Int.toNat i) * 2) + 0) = some (.int .i64 x) ∧ ∃ b2 o2, gA = some ⟨b2, o2, none⟩ ∧ 0 ≤ i ∧ i < (gL : Nat) ∧ ∃ x2 : Int, hcell hv4 b2 ((o2 + (Int.toNat i) * 2) + 1) = some (.int .i64 x2) ∧ ∃ Jv : List Value → Heap → Prop, -- join 26 [] [3]
    ( cnd (x == x2)
       (let hv5 : Heap := hset hv4 hv2.size 0 (.int .i64 (IntKind.i64.wrap (c0 + (1 : Int))))
       Jv [.int .i64 (IntKind.i64.wrap (c0 + (1 : Int))), .int .i64 c1, .int .i64 c2, .int .i64 c3, .bool c4] hv5)
       (Jv [.int .i64 c0, .int .i64 c1, .int .i64 c2, .int .i64 c3, .bool c4] hv4)) ∧
    ∀ c0_2 : Int, ∀ c1_2 : Int, ∀ c2_2 : Int, ∀ c3_2 : Int, ∀ c4_2 : Bool, ∀ hv6, Jv [.int .i64 c0_2, .int .i64 c1_2, .int .i64 c2_2, .int .i64 c3_2, .bool c4_2] hv6 →
    callX Try.prog 118 #[.agg #[.int .i64 g, .slice gA gL gC], .int .i64 i] hv6 [hv2.size, h.size, hv.size] fun v hv7 =>
    ∃ r : Bool, v = .bool r ∧
    ∃ Jv2 : List Value → Heap → Prop, -- join 33 [] [3]
    ( cnd r
       (let hv8 : Heap := hset hv7 hv2.size 1 (.int .i64 (IntKind.i64.wrap (c1_2 + (1 : Int))))
       Jv2 [.int .i64 c0_2, .int .i64 (IntKind.i64.wrap (c1_2 + (1 : Int))), .int .i64 c2_2, .int .i64 c3_2, .bool c4_2] hv8)
       (Jv2 [.int .i64 c0_2, .int .i64 c1_2, .int .i64 c2_2, .int .i64 c3_2, .bool c4_2] hv7)) ∧
    ∀ c0_3 : Int, ∀ c1_3 : Int, ∀ c2_3 : Int, ∀ c3_3 : Int, ∀ c4_3 : Bool, ∀ hv9, Jv2 [.int .i64 c0_3, .int .i64 c1_3, .int .i64 c2_3, .int .i64 c3_3, .bool c4_3] hv9 →
    Iv [.int .i64 (IntKind.i64.wrap (i + (1 : Int))), .int .i64 c0_3, .int .i64 c1_3, .int .i64 c2_3, .int .i64 c3_3, .bool c4_3] hv9 ∧ m [.int .i64 (IntKind.i64.wrap (i + (1 : Int))), .int .i64 c0_3, .int .i64 c1_3, .int .i64 c2_3, .int .i64 c3_3, .bool c4_3] hv9 < m [.int .i64 i, .int .i64 c0, .int .i64 c1, .int .i64 c2, .int .i64 c3, .bool c4] hv4)
    (callX Try.prog 119 #[.agg #[.int .i64 g, .slice gA gL gC]] hv4 [hv2.size, h.size, hv.size] fun v2 hv10 =>
    ∃ (rA : Option Addr) (rL rC : Nat), v2 = .slice rA rL rC ∧
    ∃ (Iv2 : List Value → Heap → Prop) (m2 : List Value → Heap → Nat), Iv2 [.int .i64 0, .int .i64 c0, .int .i64 c1, .int .i64 c2, .int .i64 c3, .bool c4] hv10 ∧ -- loop 2: ['v'] [3]
    ∀ v3 : Int, ∀ c0_4 : Int, ∀ c1_4 : Int, ∀ c2_4 : Int, ∀ c3_4 : Int, ∀ c4_4 : Bool, ∀ hv11, Iv2 [.int .i64 v3, .int .i64 c0_4, .int .i64 c1_4, .int .i64 c2_4, .int .i64 c3_4, .bool c4_4] hv11 →
    cnd (decide (v3 < ((rL : Nat) : Int)))
      (cnd (v3 == (0 : Int))
        (∃ b3 o3, rA = some ⟨b3, o3, none⟩ ∧ 0 ≤ v3 ∧ v3 < (rL : Nat) ∧ ∃ x3 : Int, hcell hv11 b3 (o3 + (Int.toNat v3) * 1) = some (.int .i64 x3) ∧ let hv12 : Heap := hset hv11 hv2.size 2 (.int .i64 x3)
        ∃ b4 o4, rA = some ⟨b4, o4, none⟩ ∧ 0 ≤ v3 ∧ v3 < (rL : Nat) ∧ ∃ x4 : Int, hcell hv12 b4 (o4 + (Int.toNat v3) * 1) = some (.int .i64 x4) ∧ let hv13 : Heap := hset hv12 hv2.size 3 (.int .i64 (if x4 > c3_4 then x4 else c3_4))
        Iv2 [.int .i64 (IntKind.i64.wrap (v3 + (1 : Int))), .int .i64 c0_4, .int .i64 c1_4, .int .i64 x3, .int .i64 (if x4 > c3_4 then x4 else c3_4), .bool c4_4] hv13 ∧ m2 [.int .i64 (IntKind.i64.wrap (v3 + (1 : Int))), .int .i64 c0_4, .int .i64 c1_4, .int .i64 x3, .int .i64 (if x4 > c3_4 then x4 else c3_4), .bool c4_4] hv13 < m2 [.int .i64 v3, .int .i64 c0_4, .int .i64 c1_4, .int .i64 c2_4, .int .i64 c3_4, .bool c4_4] hv11)
        (∃ b5 o5, rA = some ⟨b5, o5, none⟩ ∧ 0 ≤ v3 ∧ v3 < (rL : Nat) ∧ ∃ x5 : Int, hcell hv11 b5 (o5 + (Int.toNat v3) * 1) = some (.int .i64 x5) ∧ ∃ Jv3 : List Value → Heap → Prop, -- join 56 [] [3]
        ( cnd (decide (x5 < c2_4))
           (∃ b6 o6, rA = some ⟨b6, o6, none⟩ ∧ 0 ≤ v3 ∧ v3 < (rL : Nat) ∧ ∃ x6 : Int, hcell hv11 b6 (o6 + (Int.toNat v3) * 1) = some (.int .i64 x6) ∧ let hv14 : Heap := hset hv11 hv2.size 2 (.int .i64 x6)
           Jv3 [.int .i64 c0_4, .int .i64 c1_4, .int .i64 x6, .int .i64 c3_4, .bool c4_4] hv14)
           (Jv3 [.int .i64 c0_4, .int .i64 c1_4, .int .i64 c2_4, .int .i64 c3_4, .bool c4_4] hv11)) ∧
        ∀ c0_5 : Int, ∀ c1_5 : Int, ∀ c2_5 : Int, ∀ c3_5 : Int, ∀ c4_5 : Bool, ∀ hv15, Jv3 [.int .i64 c0_5, .int .i64 c1_5, .int .i64 c2_5, .int .i64 c3_5, .bool c4_5] hv15 →
        ∃ b7 o7, rA = some ⟨b7, o7, none⟩ ∧ 0 ≤ v3 ∧ v3 < (rL : Nat) ∧ ∃ x7 : Int, hcell hv15 b7 (o7 + (Int.toNat v3) * 1) = some (.int .i64 x7) ∧ let hv16 : Heap := hset hv15 hv2.size 3 (.int .i64 (if x7 > c3_5 then x7 else c3_5))
        Iv2 [.int .i64 (IntKind.i64.wrap (v3 + (1 : Int))), .int .i64 c0_5, .int .i64 c1_5, .int .i64 c2_5, .int .i64 (if x7 > c3_5 then x7 else c3_5), .bool c4_5] hv16 ∧ m2 [.int .i64 (IntKind.i64.wrap (v3 + (1 : Int))), .int .i64 c0_5, .int .i64 c1_5, .int .i64 c2_5, .int .i64 (if x7 > c3_5 then x7 else c3_5), .bool c4_5] hv16 < m2 [.int .i64 v3, .int .i64 c0_4, .int .i64 c1_4, .int .i64 c2_4, .int .i64 c3_4, .bool c4_4] hv11))
      (cnd (c0_4 == (0 : Int))
        (let hv17 : Heap := hset hv11 hv2.size 4 (.bool (c1_4 == (0 : Int)))
         let hv19 : Heap := hset (hset (hset (hset (hset hv17 hv.size 0 (.int .i64 c0_4)) hv.size (0 + 1) (.int .i64 c1_4)) hv.size ((0 + 1) + 1) (.int .i64 c2_4)) hv.size (((0 + 1) + 1) + 1) (.int .i64 c3_4)) hv.size ((((0 + 1) + 1) + 1) + 1) (.bool (c1_4 == (0 : Int)))
         R (.agg #[.int .i64 c0_4, .int .i64 c1_4, .int .i64 c2_4, .int .i64 c3_4, .bool (c1_4 == (0 : Int))]) hv19)
        (let hv18 : Heap := hset hv11 hv2.size 4 (.bool false)
         let hv20 : Heap := hset (hset (hset (hset (hset hv18 hv.size 0 (.int .i64 c0_4)) hv.size (0 + 1) (.int .i64 c1_4)) hv.size ((0 + 1) + 1) (.int .i64 c2_4)) hv.size (((0 + 1) + 1) + 1) (.int .i64 c3_4)) hv.size ((((0 + 1) + 1) + 1) + 1) (.bool false)
         R (.agg #[.int .i64 c0_4, .int .i64 c1_4, .int .i64 c2_4, .int .i64 c3_4, .bool false]) hv20)))

theorem calls29 {h : Heap} {R : Value → Heap → Prop} (g : Int) (gA : Option Addr) (gL gC : Nat) (H : S29 g gA gL gC h R) : CallsH Try.prog 29 #[.agg #[.int .i64 g, .slice gA gL gC]] h R := by
  have e : S29 g gA gL gC h R = FX (envX [1, 2, 3] 80) { loops := [(0, ⟨[1, 2, 3], [4], [1, 2], [3]⟩), (2, ⟨[2, 3, 5], [6], [2], [3]⟩)], joins := [(26, ⟨[1, 2, 3, 4], [], [1, 2], [3]⟩), (33, ⟨[1, 2, 3, 4], [], [1, 2], [3]⟩), (56, ⟨[2, 3, 5, 6], [], [2], [3]⟩)], blocks := [], draws := [(5, ⟨13, false⟩), (13, ⟨11, false⟩), (15, ⟨8, false⟩)] } Try.f29 (Try.f29.body.getD .skip) [.agg #[.int .i64 g, .slice gA gL gC]] h R := by kernel_rfl
  exact calls_of_FX (envX_ok _ _) Try.func29 (by kernel_rfl) (by kernel_rfl) (by kernel_rfl) (e ▸ H)

/-- tracery/maker.Cycle -/
def S30 (n : Int) (h : Heap) (R : Value → Heap → Prop) : Prop :=
  let hv : Heap := h.push (.cells #[.int .i64 n] 3)
  let hv2 : Heap := hv.push (.cells #[.int .i64 0, .slice none 0 0] 26)
  ∃ x : Int, hcell hv2 h.size 0 = some (.int .i64 x) ∧ ∃ x2 : Int, hcell hv2 h.size 0 = some (.int .i64 x2) ∧ ∃ x3 : Int, hcell hv2 h.size 0 = some (.int .i64 x3) ∧ ∃ x4 : Int, hcell hv2 h.size 0 = some (.int .i64 x4) ∧ let hv3 : Heap := hv2.push (.cells #[.int .i64 x] 3)
  Fr [] hv2 hv3 ∧
  callX Try.prog 113 #[.int .i64 1, .slice (some (⟨hv2.size, 0, none⟩ : Addr)) 1 1, .int .i64 x2, .int .i64 x3] hv3 [hv.size] fun v hv4 =>
  ∃ r : Int, v = .int .i64 r ∧
  Fr [] hv2 hv4 ∧
  callX Try.prog 112 #[.int .i64 r, .int .i64 x4, .func (.func 120) #[] #[.pointer (some (⟨h.size, 0, none⟩ : Addr))]] hv4 [hv.size] fun v2 hv5 =>
  ∃ ra : Int, ∃ (raA : Option Addr) (raL raC : Nat), ∃ rb : Int, v2 = .tuple #[.agg #[.int .i64 ra, .slice raA raL raC], .int .i64 rb] ∧
  Fr [] hv2 hv5 ∧
  let hv6 : Heap := hset (hset hv5 hv.size 0 (.int .i64 ra)) hv.size (0 + 1) (.slice raA raL raC)
  R (.tuple #[.agg #[.int .i64 ra, .slice raA raL raC], .int .i64 rb]) hv6

theorem calls30 {h : Heap} {R : Value → Heap → Prop} (n : Int) (H : S30 n h R) : CallsH Try.prog 30 #[.int .i64 n] h R := by
  have e : S30 n h R = FX (envX [2] 14) { loops := [], joins := [], blocks := [], draws := [(1, ⟨10, false⟩)] } Try.f30 (Try.f30.body.getD .skip) [.int .i64 n] h R := by kernel_rfl
  exact calls_of_FX (envX_ok _ _) Try.func30 (by kernel_rfl) (by kernel_rfl) (by kernel_rfl) (e ▸ H)

/-- tracery/maker.Wheel -/
def S31 (n : Int) (h : Heap) (R : Value → Heap → Prop) : Prop :=
  let hv : Heap := h.push (.cells #[.int .i64 n] 3)
  let hv2 : Heap := hv.push (.cells #[.int .i64 0, .slice none 0 0] 26)
  ∃ x : Int, hcell hv2 h.size 0 = some (.int .i64 x) ∧ ∃ x2 : Int, hcell hv2 h.size 0 = some (.int .i64 x2) ∧ ∃ x3 : Int, hcell hv2 h.size 0 = some (.int .i64 x3) ∧ ∃ x4 : Int, hcell hv2 h.size 0 = some (.int .i64 x4) ∧ let hv3 : Heap := hv2.push (.cells #[.int .i64 x] 3)
  Fr [] hv2 hv3 ∧
  callX Try.prog 113 #[.int .i64 3, .slice (some (⟨hv2.size, 0, none⟩ : Addr)) 1 1, .int .i64 (IntKind.i64.wrap ((if (3072 : Int) < x2 then (3072 : Int) else x2) + (1 : Int))), .int .i64 (IntKind.i64.wrap ((2 : Int) * (if (3072 : Int) < x3 then (3072 : Int) else x3)))] hv3 [hv.size] fun v hv4 =>
  ∃ r : Int, v = .int .i64 r ∧
  Fr [] hv2 hv4 ∧
  callX Try.prog 112 #[.int .i64 r, .int .i64 (IntKind.i64.wrap (x4 + (1 : Int))), .func (.func 121) #[] #[.pointer (some (⟨h.size, 0, none⟩ : Addr))]] hv4 [hv.size] fun v2 hv5 =>
  ∃ ra : Int, ∃ (raA : Option Addr) (raL raC : Nat), ∃ rb : Int, v2 = .tuple #[.agg #[.int .i64 ra, .slice raA raL raC], .int .i64 rb] ∧
  Fr [] hv2 hv5 ∧
  let hv6 : Heap := hset (hset hv5 hv.size 0 (.int .i64 ra)) hv.size (0 + 1) (.slice raA raL raC)
  R (.tuple #[.agg #[.int .i64 ra, .slice raA raL raC], .int .i64 rb]) hv6

theorem calls31 {h : Heap} {R : Value → Heap → Prop} (n : Int) (H : S31 n h R) : CallsH Try.prog 31 #[.int .i64 n] h R := by
  have e : S31 n h R = FX (envX [2] 19) { loops := [], joins := [], blocks := [], draws := [(1, ⟨15, false⟩)] } Try.f31 (Try.f31.body.getD .skip) [.int .i64 n] h R := by kernel_rfl
  exact calls_of_FX (envX_ok _ _) Try.func31 (by kernel_rfl) (by kernel_rfl) (by kernel_rfl) (e ▸ H)

/-- tracery/maker.Prism -/
def S32 (n : Int) (h : Heap) (R : Value → Heap → Prop) : Prop :=
  let hv : Heap := h.push (.cells #[.int .i64 n] 3)
  let hv2 : Heap := hv.push (.cells #[.int .i64 0, .slice none 0 0] 26)
  ∃ x : Int, hcell hv2 h.size 0 = some (.int .i64 x) ∧ ∃ x2 : Int, hcell hv2 h.size 0 = some (.int .i64 x2) ∧ let hv3 : Heap := hv2.push (.cells #[.int .i64 x2] 3)
  callX Try.prog 113 #[.int .i64 3, .slice (some (⟨hv2.size, 0, none⟩ : Addr)) 1 1, .int .i64 (IntKind.i64.wrap ((2 : Int) * (if (3072 : Int) < x then (3072 : Int) else x))), .int .i64 (IntKind.i64.wrap ((3 : Int) * (if (3072 : Int) < x then (3072 : Int) else x)))] hv3 [hv.size] fun v hv4 =>
  ∃ r : Int, v = .int .i64 r ∧
  callX Try.prog 112 #[.int .i64 r, .int .i64 (IntKind.i64.wrap ((2 : Int) * (if (3072 : Int) < x then (3072 : Int) else x))), .func (.func 122) #[] #[.pointer (some (⟨h.size, 0, none⟩ : Addr))]] hv4 [hv.size] fun v2 hv5 =>
  ∃ ra : Int, ∃ (raA : Option Addr) (raL raC : Nat), ∃ rb : Int, v2 = .tuple #[.agg #[.int .i64 ra, .slice raA raL raC], .int .i64 rb] ∧
  let hv6 : Heap := hset (hset hv5 hv.size 0 (.int .i64 ra)) hv.size (0 + 1) (.slice raA raL raC)
  R (.tuple #[.agg #[.int .i64 ra, .slice raA raL raC], .int .i64 rb]) hv6

theorem calls32 {h : Heap} {R : Value → Heap → Prop} (n : Int) (H : S32 n h R) : CallsH Try.prog 32 #[.int .i64 n] h R := by
  have e : S32 n h R = FX (envX [2] 20) { loops := [], joins := [], blocks := [], draws := [] } Try.f32 (Try.f32.body.getD .skip) [.int .i64 n] h R := by kernel_rfl
  exact calls_of_FX (envX_ok _ _) Try.func32 (by kernel_rfl) (by kernel_rfl) (by kernel_rfl) (e ▸ H)

/-- tracery/maker.Complete -/
def S33 (n : Int) (h : Heap) (R : Value → Heap → Prop) : Prop :=
  let hv : Heap := h.push (.cells #[.int .i64 n] 3)
  let hv2 : Heap := hv.push (.cells #[.int .i64 0, .slice none 0 0] 26)
  ∃ x : Int, hcell hv2 h.size 0 = some (.int .i64 x) ∧ ∃ Jv : List Value → Heap → Prop, -- join 6 ['m'] []
  ( cnd (decide (x ≤ (3072 : Int)))
     (∃ x2 : Int, hcell hv2 h.size 0 = some (.int .i64 x2) ∧ ∃ x3 : Int, hcell hv2 h.size 0 = some (.int .i64 x3) ∧ (2 : Int) ≠ 0 ∧ Jv [.int .i64 (IntKind.i64.wrap (Int.tdiv (IntKind.i64.wrap (x2 * (IntKind.i64.wrap (x3 - (1 : Int))))) (2 : Int)))] hv2)
     (Jv [.int .i64 0] hv2)) ∧
  ∀ m : Int, ∀ hv3, Jv [.int .i64 m] hv3 →
  ∃ x4 : Int, hcell hv3 h.size 0 = some (.int .i64 x4) ∧ ∃ x5 : Int, hcell hv3 h.size 0 = some (.int .i64 x5) ∧ ∃ x6 : Int, hcell hv3 h.size 0 = some (.int .i64 x6) ∧ let hv4 : Heap := hv3.push (.cells #[.int .i64 x4] 3)
  Fr [] hv3 hv4 ∧
  callX Try.prog 113 #[.int .i64 1, .slice (some (⟨hv3.size, 0, none⟩ : Addr)) 1 1, .int .i64 x5, .int .i64 m] hv4 [hv.size] fun v hv5 =>
  ∃ r : Int, v = .int .i64 r ∧
  Fr [] hv3 hv5 ∧
  callX Try.prog 112 #[.int .i64 r, .int .i64 x6, .func (.func 123) #[] #[.pointer (some (⟨h.size, 0, none⟩ : Addr))]] hv5 [hv.size] fun v2 hv6 =>
  ∃ ra : Int, ∃ (raA : Option Addr) (raL raC : Nat), ∃ rb : Int, v2 = .tuple #[.agg #[.int .i64 ra, .slice raA raL raC], .int .i64 rb] ∧
  Fr [] hv3 hv6 ∧
  let hv7 : Heap := hset (hset hv6 hv.size 0 (.int .i64 ra)) hv.size (0 + 1) (.slice raA raL raC)
  R (.tuple #[.agg #[.int .i64 ra, .slice raA raL raC], .int .i64 rb]) hv7

theorem calls33 {h : Heap} {R : Value → Heap → Prop} (n : Int) (H : S33 n h R) : CallsH Try.prog 33 #[.int .i64 n] h R := by
  have e : S33 n h R = FX (envX [2] 22) { loops := [], joins := [(6, ⟨[1, 2], [4], [2], []⟩)], blocks := [], draws := [(4, ⟨10, false⟩)] } Try.f33 (Try.f33.body.getD .skip) [.int .i64 n] h R := by kernel_rfl
  exact calls_of_FX (envX_ok _ _) Try.func33 (by kernel_rfl) (by kernel_rfl) (by kernel_rfl) (e ▸ H)

/-- tracery/maker.Two -/
def S34 (a : Int) (b : Int) (h : Heap) (R : Value → Heap → Prop) : Prop :=
  let hv : Heap := h.push (.cells #[.int .i64 a] 3)
  let hv2 : Heap := hv.push (.cells #[.int .i64 b] 3)
  let hv3 : Heap := hv2.push (.cells #[.int .i64 0, .slice none 0 0] 26)
  ∃ x : Int, hcell hv3 h.size 0 = some (.int .i64 x) ∧ cnd (decide (x ≤ (3072 : Int)))
    (∃ x2 : Int, hcell hv3 hv.size 0 = some (.int .i64 x2) ∧ ∃ Jv : List Value → Heap → Prop, -- join 12 ['n'] []
     ( cnd (decide (x2 ≤ (3072 : Int)))
        (∃ x3 : Int, hcell hv3 h.size 0 = some (.int .i64 x3) ∧ ∃ x4 : Int, hcell hv3 hv.size 0 = some (.int .i64 x4) ∧ Jv [.int .i64 (IntKind.i64.wrap (x3 + x4))] hv3)
        (Jv [.int .i64 0] hv3)) ∧
     ∀ n : Int, ∀ hv4, Jv [.int .i64 n] hv4 →
     ∃ x5 : Int, hcell hv4 h.size 0 = some (.int .i64 x5) ∧ ∃ x6 : Int, hcell hv4 hv.size 0 = some (.int .i64 x6) ∧ ∃ x7 : Int, hcell hv4 h.size 0 = some (.int .i64 x7) ∧ ∃ x8 : Int, hcell hv4 hv.size 0 = some (.int .i64 x8) ∧ (let hv5 : Heap := hv4.push (.cells #[.int .i64 x5, .int .i64 x6] 3)
     Fr [] hv4 hv5 ∧
     callX Try.prog 124 #[.int .i64 x7, .int .i64 x8] hv5 [hv2.size] fun v hv6 =>
     ∃ r : Int, v = .int .i64 r ∧
     Fr [] hv4 hv6 ∧
     callX Try.prog 113 #[.int .i64 1, .slice (some (⟨hv4.size, 0, none⟩ : Addr)) 2 2, .int .i64 n, .int .i64 r] hv6 [hv2.size] fun v2 hv7 =>
     ∃ r2 : Int, v2 = .int .i64 r2 ∧
     Fr [] hv4 hv7 ∧
     callX Try.prog 112 #[.int .i64 r2, .int .i64 n, .func (.func 125) #[] #[.pointer (some (⟨h.size, 0, none⟩ : Addr)), .pointer (some (⟨hv.size, 0, none⟩ : Addr))]] hv7 [hv2.size] fun v3 hv8 =>
     ∃ ra : Int, ∃ (raA : Option Addr) (raL raC : Nat), ∃ rb : Int, v3 = .tuple #[.agg #[.int .i64 ra, .slice raA raL raC], .int .i64 rb] ∧
     Fr [] hv4 hv8 ∧
     let hv9 : Heap := hset (hset hv8 hv2.size 0 (.int .i64 ra)) hv2.size (0 + 1) (.slice raA raL raC)
     R (.tuple #[.agg #[.int .i64 ra, .slice raA raL raC], .int .i64 rb]) hv9)
     ∧ ( callX Try.prog 124 #[.int .i64 x7, .int .i64 x8] hv4 [hv2.size] fun v4 hv10 =>
      ∃ r3 : Int, v4 = .int .i64 r3 ∧
      Fr [] hv4 hv10 ∧
      let hv11 : Heap := hv10.push (.cells #[.int .i64 x5, .int .i64 x6] 3)
      Fr [] hv4 hv11 ∧
      callX Try.prog 113 #[.int .i64 1, .slice (some (⟨hv10.size, 0, none⟩ : Addr)) 2 2, .int .i64 n, .int .i64 r3] hv11 [hv2.size] fun v5 hv12 =>
      ∃ r4 : Int, v5 = .int .i64 r4 ∧
      Fr [] hv4 hv12 ∧
      callX Try.prog 112 #[.int .i64 r4, .int .i64 n, .func (.func 125) #[] #[.pointer (some (⟨h.size, 0, none⟩ : Addr)), .pointer (some (⟨hv.size, 0, none⟩ : Addr))]] hv12 [hv2.size] fun v6 hv13 =>
      ∃ ra2 : Int, ∃ (raA2 : Option Addr) (raL2 raC2 : Nat), ∃ rb2 : Int, v6 = .tuple #[.agg #[.int .i64 ra2, .slice raA2 raL2 raC2], .int .i64 rb2] ∧
      Fr [] hv4 hv13 ∧
      let hv14 : Heap := hset (hset hv13 hv2.size 0 (.int .i64 ra2)) hv2.size (0 + 1) (.slice raA2 raL2 raC2)
      R (.tuple #[.agg #[.int .i64 ra2, .slice raA2 raL2 raC2], .int .i64 rb2]) hv14))
    (∃ x9 : Int, hcell hv3 h.size 0 = some (.int .i64 x9) ∧ ∃ x10 : Int, hcell hv3 hv.size 0 = some (.int .i64 x10) ∧ ∃ x11 : Int, hcell hv3 h.size 0 = some (.int .i64 x11) ∧ ∃ x12 : Int, hcell hv3 hv.size 0 = some (.int .i64 x12) ∧ (let hv15 : Heap := hv3.push (.cells #[.int .i64 x9, .int .i64 x10] 3)
     Fr [] hv3 hv15 ∧
     callX Try.prog 124 #[.int .i64 x11, .int .i64 x12] hv15 [hv2.size] fun v7 hv16 =>
     ∃ r5 : Int, v7 = .int .i64 r5 ∧
     Fr [] hv3 hv16 ∧
     callX Try.prog 113 #[.int .i64 1, .slice (some (⟨hv3.size, 0, none⟩ : Addr)) 2 2, .int .i64 0, .int .i64 r5] hv16 [hv2.size] fun v8 hv17 =>
     ∃ r6 : Int, v8 = .int .i64 r6 ∧
     Fr [] hv3 hv17 ∧
     callX Try.prog 112 #[.int .i64 r6, .int .i64 0, .func (.func 125) #[] #[.pointer (some (⟨h.size, 0, none⟩ : Addr)), .pointer (some (⟨hv.size, 0, none⟩ : Addr))]] hv17 [hv2.size] fun v9 hv18 =>
     ∃ ra3 : Int, ∃ (raA3 : Option Addr) (raL3 raC3 : Nat), ∃ rb3 : Int, v9 = .tuple #[.agg #[.int .i64 ra3, .slice raA3 raL3 raC3], .int .i64 rb3] ∧
     Fr [] hv3 hv18 ∧
     let hv19 : Heap := hset (hset hv18 hv2.size 0 (.int .i64 ra3)) hv2.size (0 + 1) (.slice raA3 raL3 raC3)
     R (.tuple #[.agg #[.int .i64 ra3, .slice raA3 raL3 raC3], .int .i64 rb3]) hv19)
     ∧ ( callX Try.prog 124 #[.int .i64 x11, .int .i64 x12] hv3 [hv2.size] fun v10 hv20 =>
      ∃ r7 : Int, v10 = .int .i64 r7 ∧
      Fr [] hv3 hv20 ∧
      let hv21 : Heap := hv20.push (.cells #[.int .i64 x9, .int .i64 x10] 3)
      Fr [] hv3 hv21 ∧
      callX Try.prog 113 #[.int .i64 1, .slice (some (⟨hv20.size, 0, none⟩ : Addr)) 2 2, .int .i64 0, .int .i64 r7] hv21 [hv2.size] fun v11 hv22 =>
      ∃ r8 : Int, v11 = .int .i64 r8 ∧
      Fr [] hv3 hv22 ∧
      callX Try.prog 112 #[.int .i64 r8, .int .i64 0, .func (.func 125) #[] #[.pointer (some (⟨h.size, 0, none⟩ : Addr)), .pointer (some (⟨hv.size, 0, none⟩ : Addr))]] hv22 [hv2.size] fun v12 hv23 =>
      ∃ ra4 : Int, ∃ (raA4 : Option Addr) (raL4 raC4 : Nat), ∃ rb4 : Int, v12 = .tuple #[.agg #[.int .i64 ra4, .slice raA4 raL4 raC4], .int .i64 rb4] ∧
      Fr [] hv3 hv23 ∧
      let hv24 : Heap := hset (hset hv23 hv2.size 0 (.int .i64 ra4)) hv2.size (0 + 1) (.slice raA4 raL4 raC4)
      R (.tuple #[.agg #[.int .i64 ra4, .slice raA4 raL4 raC4], .int .i64 rb4]) hv24))

theorem calls34 {h : Heap} {R : Value → Heap → Prop} (a : Int) (b : Int) (H : S34 a b h R) : CallsH Try.prog 34 #[.int .i64 a, .int .i64 b] h R := by
  have e : S34 a b h R = FX (envX [4] 29) { loops := [], joins := [(12, ⟨[2, 3, 4], [6], [4], []⟩)], blocks := [], draws := [(4, ⟨13, false⟩)] } Try.f34 (Try.f34.body.getD .skip) [.int .i64 a, .int .i64 b] h R := by kernel_rfl
  exact calls_of_FX (envX_ok _ _) Try.func34 (by kernel_rfl) (by kernel_rfl) (by kernel_rfl) (e ▸ H)

/-- tracery/maker.Grid -/
def S35 (w : Int) (hv : Int) (h : Heap) (R : Value → Heap → Prop) : Prop :=
  let hv2 : Heap := h.push (.cells #[.int .i64 w] 3)
  let hv3 : Heap := hv2.push (.cells #[.int .i64 hv] 3)
  let hv4 : Heap := hv3.push (.cells #[.int .i64 0, .slice none 0 0] 26)
  ∃ x : Int, hcell hv4 h.size 0 = some (.int .i64 x) ∧ ∃ x2 : Int, hcell hv4 hv2.size 0 = some (.int .i64 x2) ∧ callX Try.prog 124 #[.int .i64 x, .int .i64 x2] hv4 [hv3.size] fun v hv5 =>
  ∃ r : Int, v = .int .i64 r ∧
  ∃ x3 : Int, hcell hv5 h.size 0 = some (.int .i64 x3) ∧ ∃ x4 : Int, hcell hv5 hv2.size 0 = some (.int .i64 x4) ∧ ∃ x5 : Int, hcell hv5 h.size 0 = some (.int .i64 x5) ∧ ∃ x6 : Int, hcell hv5 hv2.size 0 = some (.int .i64 x6) ∧ callX Try.prog 124 #[.int .i64 (IntKind.i64.wrap (x3 - (1 : Int))), .int .i64 x4] hv5 [hv3.size] fun v2 hv6 =>
  ∃ r2 : Int, v2 = .int .i64 r2 ∧
  Fr [] hv5 hv6 ∧
  callX Try.prog 124 #[.int .i64 x5, .int .i64 (IntKind.i64.wrap (x6 - (1 : Int)))] hv6 [hv3.size] fun v3 hv7 =>
  ∃ r3 : Int, v3 = .int .i64 r3 ∧
  Fr [] hv5 hv7 ∧
  ∃ x7 : Int, hcell hv7 h.size 0 = some (.int .i64 x7) ∧ ∃ x8 : Int, hcell hv7 hv2.size 0 = some (.int .i64 x8) ∧ let hv8 : Heap := hv7.push (.cells #[.int .i64 x7, .int .i64 x8] 3)
  callX Try.prog 113 #[.int .i64 1, .slice (some (⟨hv7.size, 0, none⟩ : Addr)) 2 2, .int .i64 r, .int .i64 (IntKind.i64.wrap (r2 + r3))] hv8 [hv3.size] fun v4 hv9 =>
  ∃ r4 : Int, v4 = .int .i64 r4 ∧
  callX Try.prog 112 #[.int .i64 r4, .int .i64 r, .func (.func 126) #[] #[.pointer (some (⟨hv2.size, 0, none⟩ : Addr)), .pointer (some (⟨h.size, 0, none⟩ : Addr))]] hv9 [hv3.size] fun v5 hv10 =>
  ∃ ra : Int, ∃ (raA : Option Addr) (raL raC : Nat), ∃ rb : Int, v5 = .tuple #[.agg #[.int .i64 ra, .slice raA raL raC], .int .i64 rb] ∧
  let hv11 : Heap := hset (hset hv10 hv3.size 0 (.int .i64 ra)) hv3.size (0 + 1) (.slice raA raL raC)
  R (.tuple #[.agg #[.int .i64 ra, .slice raA raL raC], .int .i64 rb]) hv11

theorem calls35 {h : Heap} {R : Value → Heap → Prop} (w : Int) (hv : Int) (H : S35 w hv h R) : CallsH Try.prog 35 #[.int .i64 w, .int .i64 hv] h R := by
  have e : S35 w hv h R = FX (envX [4] 31) { loops := [], joins := [], blocks := [], draws := [(2, ⟨10, false⟩)] } Try.f35 (Try.f35.body.getD .skip) [.int .i64 w, .int .i64 hv] h R := by kernel_rfl
  exact calls_of_FX (envX_ok _ _) Try.func35 (by kernel_rfl) (by kernel_rfl) (by kernel_rfl) (e ▸ H)

/-- tracery/traceryref6.Parts -/
def S36 (g : Int) (gA : Option Addr) (gL gC : Nat) (goneA : Option Addr) (goneL goneC : Nat) (cutA : Option Addr) (cutL cutC : Nat) (h : Heap) (R : Value → Heap → Prop) : Prop :=
  let hv : Heap := h.push (.cells #[.int .i64 g, .slice gA gL gC] 26)
  callX Try.prog 127 #[.int .i64 g, .int .i64 (-1)] hv [h.size] fun v hv2 =>
  ∃ (rA : Option Addr) (rL rC : Nat), v = .slice rA rL rC ∧
  callX Try.prog 54 #[.agg #[.int .i64 g, .slice gA gL gC]] hv2 [h.size] fun v2 hv3 =>
  ∃ (rA2 : Option Addr) (rL2 rC2 : Nat), v2 = .slice rA2 rL2 rC2 ∧
  ∃ (Iv : List Value → Heap → Prop) (m : List Value → Heap → Nat), Iv [.int .i64 0, .int .i64 0] hv3 ∧ -- loop 0: ['n', 's'] []
  ∀ n : Int, ∀ s : Int, ∀ hv4, Iv [.int .i64 n, .int .i64 s] hv4 →
  cnd (decide (s < g))
    (∃ Jv : List Value → Heap → Prop, -- block 1 ['n'] []
    ( ∃ b o, rA = some ⟨b, o, none⟩ ∧ 0 ≤ s ∧ s < (rL : Nat) ∧ ∃ x : Int, hcell hv4 b (o + (Int.toNat s) * 1) = some (.int .i64 x) ∧ cnd (decide (x ≥ (0 : Int)))
       (Jv [.int .i64 n] hv4)
       (cnd (!(Option.isNone goneA))
         (∃ b2 o2, goneA = some ⟨b2, o2, none⟩ ∧ 0 ≤ s ∧ s < (goneL : Nat) ∧ ∃ x2 : Bool, hcell hv4 b2 (o2 + (Int.toNat s) * 1) = some (.bool x2) ∧ cnd x2
            (Jv [.int .i64 n] hv4)
            (let hv5 : Heap := hv4.push (.cells #[.int .i64 s] 3)
            ∃ b3 o3, rA = some ⟨b3, o3, none⟩ ∧ 0 ≤ s ∧ s < (rL : Nat) ∧ b3 ≠ h.size ∧ (∃ u, hcell hv5 b3 (o3 + (Int.toNat s) * 1) = some u) ∧ hfree hv5 b3 (o3 + (Int.toNat s) * 1) = true ∧ let hv6 : Heap := hset hv5 b3 (o3 + (Int.toNat s) * 1) (.int .i64 n)
            ∃ (Iv2 : List Value → Heap → Prop) (m2 : List Value → Heap → Nat), Iv2 [.slice (some (⟨hv4.size, 0, none⟩ : Addr)) 1 1] hv6 ∧ -- loop 2: ['todo'] []
            ∀ (todoA : Option Addr) (todoL todoC : Nat), ∀ hv7, Iv2 [.slice todoA todoL todoC] hv7 →
            cnd (decide (((todoL : Nat) : Int) > (0 : Int)))
              (∃ b4 o4, todoA = some ⟨b4, o4, none⟩ ∧ 0 ≤ (IntKind.i64.wrap (((todoL : Nat) : Int) - (1 : Int))) ∧ (IntKind.i64.wrap (((todoL : Nat) : Int) - (1 : Int))) < (todoL : Nat) ∧ ∃ x3 : Int, hcell hv7 b4 (o4 + (Int.toNat (IntKind.i64.wrap (((todoL : Nat) : Int) - (1 : Int)))) * 1) = some (.int .i64 x3) ∧ 0 ≤ (IntKind.i64.wrap (((todoL : Nat) : Int) - (1 : Int))) ∧ (IntKind.i64.wrap (((todoL : Nat) : Int) - (1 : Int))) ≤ (todoC : Nat) ∧ ∃ (Iv3 : List Value → Heap → Prop) (m3 : List Value → Heap → Nat), Iv3 [.slice (if todoC = 0 then todoA else Option.map (fun addr => Addr.add addr (0 * 1)) todoA) ((Int.toNat (IntKind.i64.wrap (((todoL : Nat) : Int) - (1 : Int)))) - 0) (todoC - 0), .int .i64 0] hv7 ∧ -- loop 4: ['todo', 'k'] []
              ∀ (todoA2 : Option Addr) (todoL2 todoC2 : Nat), ∀ k : Int, ∀ hv8, Iv3 [.slice todoA2 todoL2 todoC2, .int .i64 k] hv8 →
              ∃ b5 o5, rA2 = some ⟨b5, o5, none⟩ ∧ 0 ≤ x3 ∧ x3 < (rL2 : Nat) ∧ ∃ (xA : Option Addr) (xL xC : Nat), hcell hv8 b5 (o5 + (Int.toNat x3) * 1) = some (.slice xA xL xC) ∧ cnd (decide (k < ((xL : Nat) : Int)))
                (∃ Jv2 : List Value → Heap → Prop, -- block 5 ['todo'] []
                ( ∃ b6 o6, rA2 = some ⟨b6, o6, none⟩ ∧ 0 ≤ x3 ∧ x3 < (rL2 : Nat) ∧ ∃ (xA2 : Option Addr) (xL2 xC2 : Nat), hcell hv8 b6 (o6 + (Int.toNat x3) * 1) = some (.slice xA2 xL2 xC2) ∧ ∃ b7 o7, xA2 = some ⟨b7, o7, none⟩ ∧ 0 ≤ k ∧ k < (xL2 : Nat) ∧ ∃ x4 : Int, hcell hv8 b7 (o7 + (Int.toNat k) * 1) = some (.int .i64 x4) ∧ callX Try.prog 55 #[.agg #[.int .i64 g, .slice gA gL gC], .int .i64 x4] hv8 [h.size] fun v3 hv9 =>
                 ∃ r : Int, v3 = .int .i64 r ∧
                 Fr [] hv8 hv9 ∧
                 let k2 : Prop :=
                   (∃ b17 o17, rA = some ⟨b17, o17, none⟩ ∧ 0 ≤ r ∧ r < (rL : Nat) ∧ b17 ≠ h.size ∧ (∃ u, hcell hv9 b17 (o17 + (Int.toNat r) * 1) = some u) ∧ hfree hv9 b17 (o17 + (Int.toNat r) * 1) = true ∧ let hv14 : Heap := hset hv9 b17 (o17 + (Int.toNat r) * 1) (.int .i64 n)
                   let hv15 : Heap := hv14.push (.cells #[.int .i64 r] 3)
                   ∃ old2, Own hv15 3 1 todoA2 todoL2 todoC2 old2 ∧ (∀ b ∈ ([hv14.size, h.size] : List Nat), b ∉ blkOf todoA2) ∧ (todoL2 + 1) * 8 ≤ 140737488355328 ∧ (todoL2 + 1) ≤ maxLen ∧
                   ∀ sA2 sC2 hv17, Own hv17 3 1 sA2 (todoL2 + 1) sC2 (old2 ++ [.int .i64 r]) → Fr (blkOf todoA2) hv15 hv17 → ((sA2 = todoA2 ∧ sC2 = todoC2) ∨ ∃ g, sA2 = some ⟨g, 0, none⟩ ∧ hv15.size ≤ g) →
                   Jv2 [.slice sA2 (todoL2 + 1) sC2] hv17)
                 ∃ b8 o8, rA = some ⟨b8, o8, none⟩ ∧ 0 ≤ r ∧ r < (rL : Nat) ∧ ∃ x5 : Int, hcell hv9 b8 (o8 + (Int.toNat r) * 1) = some (.int .i64 x5) ∧ cnd (decide (x5 ≥ (0 : Int)))
                   (Jv2 [.slice todoA2 todoL2 todoC2] hv9)
                   (cnd (!(Option.isNone goneA))
                     (∃ b9 o9, goneA = some ⟨b9, o9, none⟩ ∧ 0 ≤ r ∧ r < (goneL : Nat) ∧ ∃ x6 : Bool, hcell hv9 b9 (o9 + (Int.toNat r) * 1) = some (.bool x6) ∧ cnd x6
                        (Jv2 [.slice todoA2 todoL2 todoC2] hv9)
                        (cnd (!(Option.isNone cutA))
                          (∃ b10 o10, rA2 = some ⟨b10, o10, none⟩ ∧ 0 ≤ x3 ∧ x3 < (rL2 : Nat) ∧ ∃ (xA3 : Option Addr) (xL3 xC3 : Nat), hcell hv9 b10 (o10 + (Int.toNat x3) * 1) = some (.slice xA3 xL3 xC3) ∧ ∃ b11 o11, xA3 = some ⟨b11, o11, none⟩ ∧ 0 ≤ k ∧ k < (xL3 : Nat) ∧ ∃ x7 : Int, hcell hv9 b11 (o11 + (Int.toNat k) * 1) = some (.int .i64 x7) ∧ (2 : Int) ≠ 0 ∧ ∃ b12 o12, cutA = some ⟨b12, o12, none⟩ ∧ 0 ≤ (IntKind.i64.wrap (Int.tdiv x7 (2 : Int))) ∧ (IntKind.i64.wrap (Int.tdiv x7 (2 : Int))) < (cutL : Nat) ∧ ∃ x8 : Bool, hcell hv9 b12 (o12 + (Int.toNat (IntKind.i64.wrap (Int.tdiv x7 (2 : Int)))) * 1) = some (.bool x8) ∧ cnd x8
                             (Jv2 [.slice todoA2 todoL2 todoC2] hv9)
                             (∃ b16 o16, rA = some ⟨b16, o16, none⟩ ∧ 0 ≤ r ∧ r < (rL : Nat) ∧ b16 ≠ h.size ∧ (∃ u, hcell hv9 b16 (o16 + (Int.toNat r) * 1) = some u) ∧ hfree hv9 b16 (o16 + (Int.toNat r) * 1) = true ∧ let hv10 : Heap := hset hv9 b16 (o16 + (Int.toNat r) * 1) (.int .i64 n)
                             let hv11 : Heap := hv10.push (.cells #[.int .i64 r] 3)
                             ∃ old, Own hv11 3 1 todoA2 todoL2 todoC2 old ∧ (∀ b ∈ ([hv10.size, h.size] : List Nat), b ∉ blkOf todoA2) ∧ (todoL2 + 1) * 8 ≤ 140737488355328 ∧ (todoL2 + 1) ≤ maxLen ∧
                             ∀ sA sC hv13, Own hv13 3 1 sA (todoL2 + 1) sC (old ++ [.int .i64 r]) → Fr (blkOf todoA2) hv11 hv13 → ((sA = todoA2 ∧ sC = todoC2) ∨ ∃ g, sA = some ⟨g, 0, none⟩ ∧ hv11.size ≤ g) →
                             Jv2 [.slice sA (todoL2 + 1) sC] hv13))
                          (k2)))
                     (cnd (!(Option.isNone cutA))
                        (∃ b13 o13, rA2 = some ⟨b13, o13, none⟩ ∧ 0 ≤ x3 ∧ x3 < (rL2 : Nat) ∧ ∃ (xA4 : Option Addr) (xL4 xC4 : Nat), hcell hv9 b13 (o13 + (Int.toNat x3) * 1) = some (.slice xA4 xL4 xC4) ∧ ∃ b14 o14, xA4 = some ⟨b14, o14, none⟩ ∧ 0 ≤ k ∧ k < (xL4 : Nat) ∧ ∃ x9 : Int, hcell hv9 b14 (o14 + (Int.toNat k) * 1) = some (.int .i64 x9) ∧ (2 : Int) ≠ 0 ∧ ∃ b15 o15, cutA = some ⟨b15, o15, none⟩ ∧ 0 ≤ (IntKind.i64.wrap (Int.tdiv x9 (2 : Int))) ∧ (IntKind.i64.wrap (Int.tdiv x9 (2 : Int))) < (cutL : Nat) ∧ ∃ x10 : Bool, hcell hv9 b15 (o15 + (Int.toNat (IntKind.i64.wrap (Int.tdiv x9 (2 : Int)))) * 1) = some (.bool x10) ∧ cnd x10
                           (Jv2 [.slice todoA2 todoL2 todoC2] hv9)
                           (∃ b18 o18, rA = some ⟨b18, o18, none⟩ ∧ 0 ≤ r ∧ r < (rL : Nat) ∧ b18 ≠ h.size ∧ (∃ u, hcell hv9 b18 (o18 + (Int.toNat r) * 1) = some u) ∧ hfree hv9 b18 (o18 + (Int.toNat r) * 1) = true ∧ let hv18 : Heap := hset hv9 b18 (o18 + (Int.toNat r) * 1) (.int .i64 n)
                           let hv19 : Heap := hv18.push (.cells #[.int .i64 r] 3)
                           ∃ old3, Own hv19 3 1 todoA2 todoL2 todoC2 old3 ∧ (∀ b ∈ ([hv18.size, h.size] : List Nat), b ∉ blkOf todoA2) ∧ (todoL2 + 1) * 8 ≤ 140737488355328 ∧ (todoL2 + 1) ≤ maxLen ∧
                           ∀ sA3 sC3 hv21, Own hv21 3 1 sA3 (todoL2 + 1) sC3 (old3 ++ [.int .i64 r]) → Fr (blkOf todoA2) hv19 hv21 → ((sA3 = todoA2 ∧ sC3 = todoC2) ∨ ∃ g, sA3 = some ⟨g, 0, none⟩ ∧ hv19.size ≤ g) →
                           Jv2 [.slice sA3 (todoL2 + 1) sC3] hv21))
                        (k2)))) ∧
                ∀ (todoA3 : Option Addr) (todoL3 todoC3 : Nat), ∀ hv22, Jv2 [.slice todoA3 todoL3 todoC3] hv22 →
                Iv3 [.slice todoA3 todoL3 todoC3, .int .i64 (IntKind.i64.wrap (k + (1 : Int)))] hv22 ∧ m3 [.slice todoA3 todoL3 todoC3, .int .i64 (IntKind.i64.wrap (k + (1 : Int)))] hv22 < m3 [.slice todoA2 todoL2 todoC2, .int .i64 k] hv8)
                (Iv2 [.slice todoA2 todoL2 todoC2] hv8 ∧ m2 [.slice todoA2 todoL2 todoC2] hv8 < m2 [.slice todoA todoL todoC] hv7))
              (Jv [.int .i64 (IntKind.i64.wrap (n + (1 : Int)))] hv7)))
         (let hv23 : Heap := hv4.push (.cells #[.int .i64 s] 3)
          ∃ b19 o19, rA = some ⟨b19, o19, none⟩ ∧ 0 ≤ s ∧ s < (rL : Nat) ∧ b19 ≠ h.size ∧ (∃ u, hcell hv23 b19 (o19 + (Int.toNat s) * 1) = some u) ∧ hfree hv23 b19 (o19 + (Int.toNat s) * 1) = true ∧ let hv24 : Heap := hset hv23 b19 (o19 + (Int.toNat s) * 1) (.int .i64 n)
          ∃ (Iv4 : List Value → Heap → Prop) (m4 : List Value → Heap → Nat), Iv4 [.slice (some (⟨hv4.size, 0, none⟩ : Addr)) 1 1] hv24 ∧ -- loop 2: ['todo'] []
          ∀ (todoA4 : Option Addr) (todoL4 todoC4 : Nat), ∀ hv25, Iv4 [.slice todoA4 todoL4 todoC4] hv25 →
          cnd (decide (((todoL4 : Nat) : Int) > (0 : Int)))
            (∃ b20 o20, todoA4 = some ⟨b20, o20, none⟩ ∧ 0 ≤ (IntKind.i64.wrap (((todoL4 : Nat) : Int) - (1 : Int))) ∧ (IntKind.i64.wrap (((todoL4 : Nat) : Int) - (1 : Int))) < (todoL4 : Nat) ∧ ∃ x11 : Int, hcell hv25 b20 (o20 + (Int.toNat (IntKind.i64.wrap (((todoL4 : Nat) : Int) - (1 : Int)))) * 1) = some (.int .i64 x11) ∧ 0 ≤ (IntKind.i64.wrap (((todoL4 : Nat) : Int) - (1 : Int))) ∧ (IntKind.i64.wrap (((todoL4 : Nat) : Int) - (1 : Int))) ≤ (todoC4 : Nat) ∧ ∃ (Iv5 : List Value → Heap → Prop) (m5 : List Value → Heap → Nat), Iv5 [.slice (if todoC4 = 0 then todoA4 else Option.map (fun addr => Addr.add addr (0 * 1)) todoA4) ((Int.toNat (IntKind.i64.wrap (((todoL4 : Nat) : Int) - (1 : Int)))) - 0) (todoC4 - 0), .int .i64 0] hv25 ∧ -- loop 4: ['todo', 'k'] []
            ∀ (todoA5 : Option Addr) (todoL5 todoC5 : Nat), ∀ k3 : Int, ∀ hv26, Iv5 [.slice todoA5 todoL5 todoC5, .int .i64 k3] hv26 →
            ∃ b21 o21, rA2 = some ⟨b21, o21, none⟩ ∧ 0 ≤ x11 ∧ x11 < (rL2 : Nat) ∧ ∃ (xA5 : Option Addr) (xL5 xC5 : Nat), hcell hv26 b21 (o21 + (Int.toNat x11) * 1) = some (.slice xA5 xL5 xC5) ∧ cnd (decide (k3 < ((xL5 : Nat) : Int)))
              (∃ Jv3 : List Value → Heap → Prop, -- block 5 ['todo'] []
              ( ∃ b22 o22, rA2 = some ⟨b22, o22, none⟩ ∧ 0 ≤ x11 ∧ x11 < (rL2 : Nat) ∧ ∃ (xA6 : Option Addr) (xL6 xC6 : Nat), hcell hv26 b22 (o22 + (Int.toNat x11) * 1) = some (.slice xA6 xL6 xC6) ∧ ∃ b23 o23, xA6 = some ⟨b23, o23, none⟩ ∧ 0 ≤ k3 ∧ k3 < (xL6 : Nat) ∧ ∃ x12 : Int, hcell hv26 b23 (o23 + (Int.toNat k3) * 1) = some (.int .i64 x12) ∧ callX Try.prog 55 #[.agg #[.int .i64 g, .slice gA gL gC], .int .i64 x12] hv26 [h.size] fun v4 hv27 =>
               ∃ r2 : Int, v4 = .int .i64 r2 ∧
               Fr [] hv26 hv27 ∧
               let k4 : Prop :=
                 (∃ b33 o33, rA = some ⟨b33, o33, none⟩ ∧ 0 ≤ r2 ∧ r2 < (rL : Nat) ∧ b33 ≠ h.size ∧ (∃ u, hcell hv27 b33 (o33 + (Int.toNat r2) * 1) = some u) ∧ hfree hv27 b33 (o33 + (Int.toNat r2) * 1) = true ∧ let hv32 : Heap := hset hv27 b33 (o33 + (Int.toNat r2) * 1) (.int .i64 n)
                 let hv33 : Heap := hv32.push (.cells #[.int .i64 r2] 3)
                 ∃ old5, Own hv33 3 1 todoA5 todoL5 todoC5 old5 ∧ (∀ b ∈ ([hv32.size, h.size] : List Nat), b ∉ blkOf todoA5) ∧ (todoL5 + 1) * 8 ≤ 140737488355328 ∧ (todoL5 + 1) ≤ maxLen ∧
                 ∀ sA5 sC5 hv35, Own hv35 3 1 sA5 (todoL5 + 1) sC5 (old5 ++ [.int .i64 r2]) → Fr (blkOf todoA5) hv33 hv35 → ((sA5 = todoA5 ∧ sC5 = todoC5) ∨ ∃ g, sA5 = some ⟨g, 0, none⟩ ∧ hv33.size ≤ g) →
                 Jv3 [.slice sA5 (todoL5 + 1) sC5] hv35)
               ∃ b24 o24, rA = some ⟨b24, o24, none⟩ ∧ 0 ≤ r2 ∧ r2 < (rL : Nat) ∧ ∃ x13 : Int, hcell hv27 b24 (o24 + (Int.toNat r2) * 1) = some (.int .i64 x13) ∧ cnd (decide (x13 ≥ (0 : Int)))
                 (Jv3 [.slice todoA5 todoL5 todoC5] hv27)
                 (cnd (!(Option.isNone goneA))
                   (∃ b25 o25, goneA = some ⟨b25, o25, none⟩ ∧ 0 ≤ r2 ∧ r2 < (goneL : Nat) ∧ ∃ x14 : Bool, hcell hv27 b25 (o25 + (Int.toNat r2) * 1) = some (.bool x14) ∧ cnd x14
                      (Jv3 [.slice todoA5 todoL5 todoC5] hv27)
                      (cnd (!(Option.isNone cutA))
                        (∃ b26 o26, rA2 = some ⟨b26, o26, none⟩ ∧ 0 ≤ x11 ∧ x11 < (rL2 : Nat) ∧ ∃ (xA7 : Option Addr) (xL7 xC7 : Nat), hcell hv27 b26 (o26 + (Int.toNat x11) * 1) = some (.slice xA7 xL7 xC7) ∧ ∃ b27 o27, xA7 = some ⟨b27, o27, none⟩ ∧ 0 ≤ k3 ∧ k3 < (xL7 : Nat) ∧ ∃ x15 : Int, hcell hv27 b27 (o27 + (Int.toNat k3) * 1) = some (.int .i64 x15) ∧ (2 : Int) ≠ 0 ∧ ∃ b28 o28, cutA = some ⟨b28, o28, none⟩ ∧ 0 ≤ (IntKind.i64.wrap (Int.tdiv x15 (2 : Int))) ∧ (IntKind.i64.wrap (Int.tdiv x15 (2 : Int))) < (cutL : Nat) ∧ ∃ x16 : Bool, hcell hv27 b28 (o28 + (Int.toNat (IntKind.i64.wrap (Int.tdiv x15 (2 : Int)))) * 1) = some (.bool x16) ∧ cnd x16
                           (Jv3 [.slice todoA5 todoL5 todoC5] hv27)
                           (∃ b32 o32, rA = some ⟨b32, o32, none⟩ ∧ 0 ≤ r2 ∧ r2 < (rL : Nat) ∧ b32 ≠ h.size ∧ (∃ u, hcell hv27 b32 (o32 + (Int.toNat r2) * 1) = some u) ∧ hfree hv27 b32 (o32 + (Int.toNat r2) * 1) = true ∧ let hv28 : Heap := hset hv27 b32 (o32 + (Int.toNat r2) * 1) (.int .i64 n)
                           let hv29 : Heap := hv28.push (.cells #[.int .i64 r2] 3)
                           ∃ old4, Own hv29 3 1 todoA5 todoL5 todoC5 old4 ∧ (∀ b ∈ ([hv28.size, h.size] : List Nat), b ∉ blkOf todoA5) ∧ (todoL5 + 1) * 8 ≤ 140737488355328 ∧ (todoL5 + 1) ≤ maxLen ∧
                           ∀ sA4 sC4 hv31, Own hv31 3 1 sA4 (todoL5 + 1) sC4 (old4 ++ [.int .i64 r2]) → Fr (blkOf todoA5) hv29 hv31 → ((sA4 = todoA5 ∧ sC4 = todoC5) ∨ ∃ g, sA4 = some ⟨g, 0, none⟩ ∧ hv29.size ≤ g) →
                           Jv3 [.slice sA4 (todoL5 + 1) sC4] hv31))
                        (k4)))
                   (cnd (!(Option.isNone cutA))
                      (∃ b29 o29, rA2 = some ⟨b29, o29, none⟩ ∧ 0 ≤ x11 ∧ x11 < (rL2 : Nat) ∧ ∃ (xA8 : Option Addr) (xL8 xC8 : Nat), hcell hv27 b29 (o29 + (Int.toNat x11) * 1) = some (.slice xA8 xL8 xC8) ∧ ∃ b30 o30, xA8 = some ⟨b30, o30, none⟩ ∧ 0 ≤ k3 ∧ k3 < (xL8 : Nat) ∧ ∃ x17 : Int, hcell hv27 b30 (o30 + (Int.toNat k3) * 1) = some (.int .i64 x17) ∧ (2 : Int) ≠ 0 ∧ ∃ b31 o31, cutA = some ⟨b31, o31, none⟩ ∧ 0 ≤ (IntKind.i64.wrap (Int.tdiv x17 (2 : Int))) ∧ (IntKind.i64.wrap (Int.tdiv x17 (2 : Int))) < (cutL : Nat) ∧ ∃ x18 : Bool, hcell hv27 b31 (o31 + (Int.toNat (IntKind.i64.wrap (Int.tdiv x17 (2 : Int)))) * 1) = some (.bool x18) ∧ cnd x18
                         (Jv3 [.slice todoA5 todoL5 todoC5] hv27)
                         (∃ b34 o34, rA = some ⟨b34, o34, none⟩ ∧ 0 ≤ r2 ∧ r2 < (rL : Nat) ∧ b34 ≠ h.size ∧ (∃ u, hcell hv27 b34 (o34 + (Int.toNat r2) * 1) = some u) ∧ hfree hv27 b34 (o34 + (Int.toNat r2) * 1) = true ∧ let hv36 : Heap := hset hv27 b34 (o34 + (Int.toNat r2) * 1) (.int .i64 n)
                         let hv37 : Heap := hv36.push (.cells #[.int .i64 r2] 3)
                         ∃ old6, Own hv37 3 1 todoA5 todoL5 todoC5 old6 ∧ (∀ b ∈ ([hv36.size, h.size] : List Nat), b ∉ blkOf todoA5) ∧ (todoL5 + 1) * 8 ≤ 140737488355328 ∧ (todoL5 + 1) ≤ maxLen ∧
                         ∀ sA6 sC6 hv39, Own hv39 3 1 sA6 (todoL5 + 1) sC6 (old6 ++ [.int .i64 r2]) → Fr (blkOf todoA5) hv37 hv39 → ((sA6 = todoA5 ∧ sC6 = todoC5) ∨ ∃ g, sA6 = some ⟨g, 0, none⟩ ∧ hv37.size ≤ g) →
                         Jv3 [.slice sA6 (todoL5 + 1) sC6] hv39))
                      (k4)))) ∧
              ∀ (todoA6 : Option Addr) (todoL6 todoC6 : Nat), ∀ hv40, Jv3 [.slice todoA6 todoL6 todoC6] hv40 →
              Iv5 [.slice todoA6 todoL6 todoC6, .int .i64 (IntKind.i64.wrap (k3 + (1 : Int)))] hv40 ∧ m5 [.slice todoA6 todoL6 todoC6, .int .i64 (IntKind.i64.wrap (k3 + (1 : Int)))] hv40 < m5 [.slice todoA5 todoL5 todoC5, .int .i64 k3] hv26)
              (Iv4 [.slice todoA5 todoL5 todoC5] hv26 ∧ m4 [.slice todoA5 todoL5 todoC5] hv26 < m4 [.slice todoA4 todoL4 todoC4] hv25))
            (Jv [.int .i64 (IntKind.i64.wrap (n + (1 : Int)))] hv25)))) ∧
    ∀ n2 : Int, ∀ hv41, Jv [.int .i64 n2] hv41 →
    Iv [.int .i64 n2, .int .i64 (IntKind.i64.wrap (s + (1 : Int)))] hv41 ∧ m [.int .i64 n2, .int .i64 (IntKind.i64.wrap (s + (1 : Int)))] hv41 < m [.int .i64 n, .int .i64 s] hv4)
    (R (.tuple #[.slice rA rL rC, .int .i64 n]) hv4)

theorem calls36 {h : Heap} {R : Value → Heap → Prop} (g : Int) (gA : Option Addr) (gL gC : Nat) (goneA : Option Addr) (goneL goneC : Nat) (cutA : Option Addr) (cutL cutC : Nat) (H : S36 g gA gL gC goneA goneL goneC cutA cutL cutC h R) : CallsH Try.prog 36 #[.agg #[.int .i64 g, .slice gA gL gC], .slice goneA goneL goneC, .slice cutA cutL cutC] h R := by
  have e : S36 g gA gL gC goneA goneL goneC cutA cutL cutC h R = FX (envX [3, 118] 124) { loops := [(0, ⟨[1, 2, 3, 8, 10], [9, 11], [3], []⟩), (2, ⟨[1, 2, 3, 8, 9, 10, 11], [12], [3], []⟩), (4, ⟨[1, 2, 3, 8, 9, 10, 11, 13], [12, 14], [3], []⟩)], joins := [], blocks := [(1, ⟨[1, 2, 3, 8, 10, 11], [9], [3], []⟩), (5, ⟨[1, 2, 3, 8, 9, 10, 11, 13, 14], [12], [3], []⟩)], draws := [(16, ⟨10, false⟩)] } Try.f36 (Try.f36.body.getD .skip) [.agg #[.int .i64 g, .slice gA gL gC], .slice goneA goneL goneC, .slice cutA cutL cutC] h R := by kernel_rfl
  exact calls_of_FX (envX_ok _ _) Try.func36 (by kernel_rfl) (by kernel_rfl) (by kernel_rfl) (e ▸ H)

/-- tracery/tracerylaw5.names -/
def S37  (h : Heap) (R : Value → Heap → Prop) : Prop :=
  let hv : Heap := h.push (.cells #[.string (⟨#[112, 97, 116, 104]⟩ : ByteArray), .string (⟨#[99, 121, 99, 108, 101]⟩ : ByteArray), .string (⟨#[99, 111, 109, 112, 108, 101, 116, 101]⟩ : ByteArray), .string (⟨#[116, 119, 111]⟩ : ByteArray), .string (⟨#[103, 114, 105, 100]⟩ : ByteArray), .string (⟨#[119, 104, 101, 101, 108]⟩ : ByteArray), .string (⟨#[112, 114, 105, 115, 109]⟩ : ByteArray), .string (⟨#[98, 111, 110, 100]⟩ : ByteArray), .string (⟨#[114, 97, 110, 100, 111, 109]⟩ : ByteArray), .string (⟨#[115, 116, 97, 99, 107]⟩ : ByteArray)] 9)
  R (.slice (some (⟨h.size, 0, none⟩ : Addr)) 10 10) hv

theorem calls37 {h : Heap} {R : Value → Heap → Prop}  (H : S37  h R) : CallsH Try.prog 37 #[] h R := by
  have e : S37  h R = FX (envX [] 2) { loops := [], joins := [], blocks := [], draws := [] } Try.f37 (Try.f37.body.getD .skip) [] h R := by kernel_rfl
  exact calls_of_FX (envX_ok _ _) Try.func37 (by kernel_rfl) (by kernel_rfl) (by kernel_rfl) (e ▸ H)

/-- tracery/tracerylaw5.Make -/
def S39 (name : ByteArray) (a : Int) (b : Int) (seed : Int) (h : Heap) (R : Value → Heap → Prop) : Prop :=
  let hv : Heap := h.push (.cells #[.int .i64 0, .slice none 0 0] 26)
  cnd (name.toList == (⟨#[112, 97, 116, 104]⟩ : ByteArray).toList)
    (callX Try.prog 136 #[.int .i64 a] hv [h.size] fun v hv2 =>
    ∃ ra : Int, ∃ (raA : Option Addr) (raL raC : Nat), ∃ rb : Int, v = .tuple #[.agg #[.int .i64 ra, .slice raA raL raC], .int .i64 rb] ∧
    let hv3 : Heap := hset (hset hv2 h.size 0 (.int .i64 ra)) h.size (0 + 1) (.slice raA raL raC)
    R (.tuple #[.agg #[.int .i64 ra, .slice raA raL raC], .int .i64 rb]) hv3)
    (cnd (name.toList == (⟨#[99, 121, 99, 108, 101]⟩ : ByteArray).toList)
      (callX Try.prog 30 #[.int .i64 a] hv [h.size] fun v2 hv4 =>
      ∃ ra2 : Int, ∃ (raA2 : Option Addr) (raL2 raC2 : Nat), ∃ rb2 : Int, v2 = .tuple #[.agg #[.int .i64 ra2, .slice raA2 raL2 raC2], .int .i64 rb2] ∧
      let hv5 : Heap := hset (hset hv4 h.size 0 (.int .i64 ra2)) h.size (0 + 1) (.slice raA2 raL2 raC2)
      R (.tuple #[.agg #[.int .i64 ra2, .slice raA2 raL2 raC2], .int .i64 rb2]) hv5)
      (cnd (name.toList == (⟨#[99, 111, 109, 112, 108, 101, 116, 101]⟩ : ByteArray).toList)
        (callX Try.prog 33 #[.int .i64 a] hv [h.size] fun v3 hv6 =>
        ∃ ra3 : Int, ∃ (raA3 : Option Addr) (raL3 raC3 : Nat), ∃ rb3 : Int, v3 = .tuple #[.agg #[.int .i64 ra3, .slice raA3 raL3 raC3], .int .i64 rb3] ∧
        let hv7 : Heap := hset (hset hv6 h.size 0 (.int .i64 ra3)) h.size (0 + 1) (.slice raA3 raL3 raC3)
        R (.tuple #[.agg #[.int .i64 ra3, .slice raA3 raL3 raC3], .int .i64 rb3]) hv7)
        (cnd (name.toList == (⟨#[116, 119, 111]⟩ : ByteArray).toList)
          (callX Try.prog 34 #[.int .i64 a, .int .i64 b] hv [h.size] fun v4 hv8 =>
          ∃ ra4 : Int, ∃ (raA4 : Option Addr) (raL4 raC4 : Nat), ∃ rb4 : Int, v4 = .tuple #[.agg #[.int .i64 ra4, .slice raA4 raL4 raC4], .int .i64 rb4] ∧
          let hv9 : Heap := hset (hset hv8 h.size 0 (.int .i64 ra4)) h.size (0 + 1) (.slice raA4 raL4 raC4)
          R (.tuple #[.agg #[.int .i64 ra4, .slice raA4 raL4 raC4], .int .i64 rb4]) hv9)
          (cnd (name.toList == (⟨#[103, 114, 105, 100]⟩ : ByteArray).toList)
            (callX Try.prog 35 #[.int .i64 a, .int .i64 b] hv [h.size] fun v5 hv10 =>
            ∃ ra5 : Int, ∃ (raA5 : Option Addr) (raL5 raC5 : Nat), ∃ rb5 : Int, v5 = .tuple #[.agg #[.int .i64 ra5, .slice raA5 raL5 raC5], .int .i64 rb5] ∧
            let hv11 : Heap := hset (hset hv10 h.size 0 (.int .i64 ra5)) h.size (0 + 1) (.slice raA5 raL5 raC5)
            R (.tuple #[.agg #[.int .i64 ra5, .slice raA5 raL5 raC5], .int .i64 rb5]) hv11)
            (cnd (name.toList == (⟨#[119, 104, 101, 101, 108]⟩ : ByteArray).toList)
              (callX Try.prog 31 #[.int .i64 a] hv [h.size] fun v6 hv12 =>
              ∃ ra6 : Int, ∃ (raA6 : Option Addr) (raL6 raC6 : Nat), ∃ rb6 : Int, v6 = .tuple #[.agg #[.int .i64 ra6, .slice raA6 raL6 raC6], .int .i64 rb6] ∧
              let hv13 : Heap := hset (hset hv12 h.size 0 (.int .i64 ra6)) h.size (0 + 1) (.slice raA6 raL6 raC6)
              R (.tuple #[.agg #[.int .i64 ra6, .slice raA6 raL6 raC6], .int .i64 rb6]) hv13)
              (cnd (name.toList == (⟨#[112, 114, 105, 115, 109]⟩ : ByteArray).toList)
                (callX Try.prog 32 #[.int .i64 a] hv [h.size] fun v7 hv14 =>
                ∃ ra7 : Int, ∃ (raA7 : Option Addr) (raL7 raC7 : Nat), ∃ rb7 : Int, v7 = .tuple #[.agg #[.int .i64 ra7, .slice raA7 raL7 raC7], .int .i64 rb7] ∧
                let hv15 : Heap := hset (hset hv14 h.size 0 (.int .i64 ra7)) h.size (0 + 1) (.slice raA7 raL7 raC7)
                R (.tuple #[.agg #[.int .i64 ra7, .slice raA7 raL7 raC7], .int .i64 rb7]) hv15)
                (cnd (name.toList == (⟨#[98, 111, 110, 100]⟩ : ByteArray).toList)
                  (callX Try.prog 137 #[.int .i64 a] hv [h.size] fun v8 hv16 =>
                  ∃ ra8 : Int, ∃ (raA8 : Option Addr) (raL8 raC8 : Nat), ∃ rb8 : Int, v8 = .tuple #[.agg #[.int .i64 ra8, .slice raA8 raL8 raC8], .int .i64 rb8] ∧
                  let hv17 : Heap := hset (hset hv16 h.size 0 (.int .i64 ra8)) h.size (0 + 1) (.slice raA8 raL8 raC8)
                  R (.tuple #[.agg #[.int .i64 ra8, .slice raA8 raL8 raC8], .int .i64 rb8]) hv17)
                  (cnd (name.toList == (⟨#[114, 97, 110, 100, 111, 109]⟩ : ByteArray).toList)
                    (callX Try.prog 138 #[.int .i64 a, .int .i64 b, .int .u64 seed] hv [h.size] fun v9 hv18 =>
                    ∃ ra9 : Int, ∃ (raA9 : Option Addr) (raL9 raC9 : Nat), ∃ rb9 : Int, v9 = .tuple #[.agg #[.int .i64 ra9, .slice raA9 raL9 raC9], .int .i64 rb9] ∧
                    let hv19 : Heap := hset (hset hv18 h.size 0 (.int .i64 ra9)) h.size (0 + 1) (.slice raA9 raL9 raC9)
                    R (.tuple #[.agg #[.int .i64 ra9, .slice raA9 raL9 raC9], .int .i64 rb9]) hv19)
                    (callX Try.prog 28 #[.int .i64 a, .int .u64 seed] hv [h.size] fun v10 hv20 =>
                    ∃ ra10 : Int, ∃ (raA10 : Option Addr) (raL10 raC10 : Nat), ∃ rb10 : Int, v10 = .tuple #[.agg #[.int .i64 ra10, .slice raA10 raL10 raC10], .int .i64 rb10] ∧
                    let hv21 : Heap := hset (hset hv20 h.size 0 (.int .i64 ra10)) h.size (0 + 1) (.slice raA10 raL10 raC10)
                    R (.tuple #[.agg #[.int .i64 ra10, .slice raA10 raL10 raC10], .int .i64 rb10]) hv21)))))))))

theorem calls39 {h : Heap} {R : Value → Heap → Prop} (name : ByteArray) (a : Int) (b : Int) (seed : Int) (H : S39 name a b seed h R) : CallsH Try.prog 39 #[.string name, .int .i64 a, .int .i64 b, .int .u64 seed] h R := by
  have e : S39 name a b seed h R = FX (envX [8] 74) { loops := [], joins := [], blocks := [], draws := [] } Try.f39 (Try.f39.body.getD .skip) [.string name, .int .i64 a, .int .i64 b, .int .u64 seed] h R := by kernel_rfl
  exact calls_of_FX (envX_ok _ _) Try.func39 (by kernel_rfl) (by kernel_rfl) (by kernel_rfl) (e ▸ H)

/-- tracery/traceryref3.Same -/
def S40 (a : Int) (aA : Option Addr) (aL aC : Nat) (b : Int) (bA : Option Addr) (bL bC : Nat) (h : Heap) (R : Value → Heap → Prop) : Prop :=
  let hv : Heap := h.push (.cells #[.int .i64 a, .slice aA aL aC] 26)
  let hv2 : Heap := hv.push (.cells #[.int .i64 b, .slice bA bL bC] 26)
  cnd (a != b)
    (R (.bool false) hv2)
    (cnd (((aL : Nat) : Int) != ((bL : Nat) : Int))
       (R (.bool false) hv2)
       (∃ (Iv : List Value → Heap → Prop) (m : List Value → Heap → Nat), Iv [.int .i64 0] hv2 ∧ -- loop 0: ['i'] []
       ∀ i : Int, ∀ hv3, Iv [.int .i64 i] hv3 →
       cnd (decide (i < ((aL : Nat) : Int)))
         (∃ b2 o, aA = some ⟨b2, o, none⟩ ∧ 0 ≤ i ∧ i < (aL : Nat) ∧ ∃ x : Int, hcell hv3 b2 (o + (Int.toNat i) * 2) = some (.int .i64 x) ∧ ∃ x2 : Int, hcell hv3 b2 ((o + (Int.toNat i) * 2) + 1) = some (.int .i64 x2) ∧ ∃ b3 o2, bA = some ⟨b3, o2, none⟩ ∧ 0 ≤ i ∧ i < (bL : Nat) ∧ ∃ x3 : Int, hcell hv3 b3 (o2 + (Int.toNat i) * 2) = some (.int .i64 x3) ∧ ∃ x4 : Int, hcell hv3 b3 ((o2 + (Int.toNat i) * 2) + 1) = some (.int .i64 x4) ∧ cnd (!((x == x3) && (x2 == x4)))
           (R (.bool false) hv3)
           (Iv [.int .i64 (IntKind.i64.wrap (i + (1 : Int)))] hv3 ∧ m [.int .i64 (IntKind.i64.wrap (i + (1 : Int)))] hv3 < m [.int .i64 i] hv3))
         (R (.bool true) hv3)))

theorem calls40 {h : Heap} {R : Value → Heap → Prop} (a : Int) (aA : Option Addr) (aL aC : Nat) (b : Int) (bA : Option Addr) (bL bC : Nat) (H : S40 a aA aL aC b bA bL bC h R) : CallsH Try.prog 40 #[.agg #[.int .i64 a, .slice aA aL aC], .agg #[.int .i64 b, .slice bA bL bC]] h R := by
  have e : S40 a aA aL aC b bA bL bC h R = FX (envX [2, 3] 38) { loops := [(0, ⟨[2, 3], [5], [2, 3], []⟩)], joins := [], blocks := [], draws := [(6, ⟨11, false⟩)] } Try.f40 (Try.f40.body.getD .skip) [.agg #[.int .i64 a, .slice aA aL aC], .agg #[.int .i64 b, .slice bA bL bC]] h R := by kernel_rfl
  exact calls_of_FX (envX_ok _ _) Try.func40 (by kernel_rfl) (by kernel_rfl) (by kernel_rfl) (e ▸ H)

/-- tracery/tracerylaw3.Spoil -/
def S41 (g : Int) (gA : Option Addr) (gL gC : Nat) (h : Heap) (R : Value → Heap → Prop) : Prop :=
  let hv : Heap := h.push (.cells #[.int .i64 g, .slice gA gL gC] 26)
  callX Try.prog 139 #[.int .i64 ((gL : Nat) : Int), .int .i64 ((gC : Nat) : Int)] hv [h.size] fun v hv2 =>
  ∃ r : Int, v = .int .i64 r ∧
  ∃ (Iv : List Value → Heap → Prop) (m : List Value → Heap → Nat), Iv [.int .i64 g, .slice gA gL gC] hv2 ∧ -- loop 0: [] [1]
  ∀ c0 : Int, ∀ (c1A : Option Addr) (c1L c1C : Nat), ∀ hv3, Iv [.int .i64 c0, .slice c1A c1L c1C] hv3 →
  cnd (decide (((c1L : Nat) : Int) < r))
    (let hv4 : Heap := hv3.push (.cells #[.int .i64 0, .int .i64 0] 35)
    ∃ old, Own hv4 35 2 c1A c1L c1C old ∧ (∀ b ∈ ([hv3.size, h.size] : List Nat), b ∉ blkOf c1A) ∧ (c1L + 1) * 16 ≤ 140737488355328 ∧ (c1L + 1) ≤ maxLen ∧
    ∀ sA sC hv6, Own hv6 35 2 sA (c1L + 1) sC (old ++ [.int .i64 0, .int .i64 0]) → Fr (blkOf c1A) hv4 hv6 → ((sA = c1A ∧ sC = c1C) ∨ ∃ g, sA = some ⟨g, 0, none⟩ ∧ hv4.size ≤ g) →
    let hv7 : Heap := hset hv6 h.size 1 (.slice sA (c1L + 1) sC)
    Iv [.int .i64 c0, .slice sA (c1L + 1) sC] hv7 ∧ m [.int .i64 c0, .slice sA (c1L + 1) sC] hv7 < m [.int .i64 c0, .slice c1A c1L c1C] hv3)
    (∃ (Iv2 : List Value → Heap → Prop) (m2 : List Value → Heap → Nat), Iv2 [.int .i64 0] hv3 ∧ -- loop 2: ['i'] []
    ∀ i : Int, ∀ hv8, Iv2 [.int .i64 i] hv8 →
    cnd (decide (i < ((c1L : Nat) : Int)))
      (∃ b o, c1A = some ⟨b, o, none⟩ ∧ 0 ≤ i ∧ i < (c1L : Nat) ∧ b ≠ h.size ∧ (∃ u, hcell hv8 b (o + (Int.toNat i) * 2) = some u) ∧ hfree hv8 b (o + (Int.toNat i) * 2) = true ∧ (∃ u, hcell hv8 b ((o + (Int.toNat i) * 2) + 1) = some u) ∧ hfree hv8 b ((o + (Int.toNat i) * 2) + 1) = true ∧ let hv9 : Heap := hset (hset hv8 b (o + (Int.toNat i) * 2) (.int .i64 (-9))) b ((o + (Int.toNat i) * 2) + 1) (.int .i64 (-9))
      Iv2 [.int .i64 (IntKind.i64.wrap (i + (1 : Int)))] hv9 ∧ m2 [.int .i64 (IntKind.i64.wrap (i + (1 : Int)))] hv9 < m2 [.int .i64 i] hv8)
      (R (.tuple #[]) hv8))

theorem calls41 {h : Heap} {R : Value → Heap → Prop} (g : Int) (gA : Option Addr) (gL gC : Nat) (H : S41 g gA gL gC h R) : CallsH Try.prog 41 #[.agg #[.int .i64 g, .slice gA gL gC]] h R := by
  have e : S41 g gA gL gC h R = FX (envX [1, 19] 34) { loops := [(0, ⟨[1, 2], [], [], [1]⟩), (2, ⟨[1], [3], [1], []⟩)], joins := [], blocks := [], draws := [] } Try.f41 (Try.f41.body.getD .skip) [.agg #[.int .i64 g, .slice gA gL gC]] h R := by kernel_rfl
  exact calls_of_FX (envX_ok _ _) Try.func41 (by kernel_rfl) (by kernel_rfl) (by kernel_rfl) (e ▸ H)

/-- tracery/traceryref3.May -/
def S43 (g : Int) (gA : Option Addr) (gL gC : Nat) (h : Heap) (R : Value → Heap → Prop) : Prop :=
  let hv : Heap := h.push (.cells #[.int .i64 g, .slice gA gL gC] 26)
  cnd (decide (g < (0 : Int)))
    (R (.bool false) hv)
    (cnd (decide (g > (1024 : Int)))
       (R (.bool false) hv)
       (cnd (decide (((gL : Nat) : Int) > (3072 : Int)))
          (R (.bool false) hv)
          (∃ (Iv : List Value → Heap → Prop) (m : List Value → Heap → Nat), Iv [.int .i64 0] hv ∧ -- loop 0: ['i'] []
          ∀ i : Int, ∀ hv2, Iv [.int .i64 i] hv2 →
          cnd (decide (i < ((gL : Nat) : Int)))
            (∃ (Iv2 : List Value → Heap → Prop) (m2 : List Value → Heap → Nat), Iv2 [.int .i64 0] hv2 ∧ -- loop 2: ['k'] []
            ∀ k : Int, ∀ hv3, Iv2 [.int .i64 k] hv3 →
            cnd (decide (k < (2 : Int)))
              (∃ b o, gA = some ⟨b, o, none⟩ ∧ 0 ≤ i ∧ i < (gL : Nat) ∧ 0 ≤ k ∧ k < ((2 : Nat) : Int) ∧ ∃ x : Int, hcell hv3 b ((o + (Int.toNat i) * 2) + (Int.toNat k) * 1) = some (.int .i64 x) ∧ cnd (decide (x < (0 : Int)))
                (R (.bool false) hv3)
                (∃ b2 o2, gA = some ⟨b2, o2, none⟩ ∧ 0 ≤ i ∧ i < (gL : Nat) ∧ 0 ≤ k ∧ k < ((2 : Nat) : Int) ∧ ∃ x2 : Int, hcell hv3 b2 ((o2 + (Int.toNat i) * 2) + (Int.toNat k) * 1) = some (.int .i64 x2) ∧ cnd (decide (x2 ≥ g))
                  (R (.bool false) hv3)
                  (Iv2 [.int .i64 (IntKind.i64.wrap (k + (1 : Int)))] hv3 ∧ m2 [.int .i64 (IntKind.i64.wrap (k + (1 : Int)))] hv3 < m2 [.int .i64 k] hv3)))
              (Iv [.int .i64 (IntKind.i64.wrap (i + (1 : Int)))] hv3 ∧ m [.int .i64 (IntKind.i64.wrap (i + (1 : Int)))] hv3 < m [.int .i64 i] hv2))
            (R (.bool true) hv2))))

theorem calls43 {h : Heap} {R : Value → Heap → Prop} (g : Int) (gA : Option Addr) (gL gC : Nat) (H : S43 g gA gL gC h R) : CallsH Try.prog 43 #[.agg #[.int .i64 g, .slice gA gL gC]] h R := by
  have e : S43 g gA gL gC h R = FX (envX [1] 50) { loops := [(0, ⟨[1], [3], [1], []⟩), (2, ⟨[1, 3], [4], [1], []⟩)], joins := [], blocks := [], draws := [(9, ⟨20, false⟩)] } Try.f43 (Try.f43.body.getD .skip) [.agg #[.int .i64 g, .slice gA gL gC]] h R := by kernel_rfl
  exact calls_of_FX (envX_ok _ _) Try.func43 (by kernel_rfl) (by kernel_rfl) (by kernel_rfl) (e ▸ H)

/-- tracery/traceryref3.Outs -/
def S54 (g : Int) (gA : Option Addr) (gL gC : Nat) (h : Heap) (R : Value → Heap → Prop) : Prop :=
  let hv : Heap := h.push (.cells #[.int .i64 g, .slice gA gL gC] 26)
  0 ≤ g ∧ g ≤ g ∧ ((24 : Nat) : Int) * g ≤ 281474976710656 ∧ g ≤ 9223372036854775807 ∧ let hv2 : Heap := hv.push (.cells (madeCells (List.toArray [.slice none 0 0]) (Int.toNat g * 1)) 40)
  ∃ (Iv : List Value → Heap → Prop) (m : List Value → Heap → Nat), Iv [.int .i64 0] hv2 ∧ -- loop 0: ['h'] []
  ∀ hv3 : Int, ∀ hv4, Iv [.int .i64 hv3] hv4 →
  cnd (decide (hv3 < (IntKind.i64.wrap ((2 : Int) * ((gL : Nat) : Int)))))
    (∃ Mv : List Nat, (∀ b ∈ ([h.size] : List Nat), b ∉ Mv) ∧
    (callX Try.prog 88 #[.agg #[.int .i64 g, .slice gA gL gC], .int .i64 hv3] hv4 [h.size] fun v hv5 =>
    ∃ r : Int, v = .int .i64 r ∧
    Fr Mv hv4 hv5 ∧
    (callX Try.prog 88 #[.agg #[.int .i64 g, .slice gA gL gC], .int .i64 hv3] hv5 [h.size] fun v2 hv6 =>
    ∃ r2 : Int, v2 = .int .i64 r2 ∧
    Fr Mv hv4 hv6 ∧
    ∃ b o, (some (⟨hv.size, 0, none⟩ : Addr)) = some ⟨b, o, none⟩ ∧ 0 ≤ r2 ∧ r2 < ((Int.toNat g) : Nat) ∧ b ∉ Mv ∧ ∃ (xA : Option Addr) (xL xC : Nat), hcell hv4 b (o + (Int.toNat r2) * 1) = some (.slice xA xL xC) ∧ let hv7 : Heap := hv6.push (.cells #[.int .i64 hv3] 3)
    Fr Mv hv4 hv7 ∧
    ∃ old, Own hv7 3 1 xA xL xC old ∧ (∀ b ∈ ([hv6.size, h.size] : List Nat), b ∉ blkOf xA) ∧ (xL + 1) * 8 ≤ 140737488355328 ∧ (xL + 1) ≤ maxLen ∧
    ∀ sA sC hv9, Own hv9 3 1 sA (xL + 1) sC (old ++ [.int .i64 hv3]) → Fr (blkOf xA) hv7 hv9 → ((sA = xA ∧ sC = xC) ∨ ∃ g, sA = some ⟨g, 0, none⟩ ∧ hv7.size ≤ g) →
    Fr Mv hv4 hv9 ∧
    ∃ b2 o2, (some (⟨hv.size, 0, none⟩ : Addr)) = some ⟨b2, o2, none⟩ ∧ 0 ≤ r ∧ r < ((Int.toNat g) : Nat) ∧ b2 ≠ hv6.size ∧ b2 ≠ h.size ∧ (∃ u, hcell hv9 b2 (o2 + (Int.toNat r) * 1) = some u) ∧ hfree hv9 b2 (o2 + (Int.toNat r) * 1) = true ∧ let hv10 : Heap := hset hv9 b2 (o2 + (Int.toNat r) * 1) (.slice sA (xL + 1) sC)
    Iv [.int .i64 (IntKind.i64.wrap (hv3 + (1 : Int)))] hv10 ∧ m [.int .i64 (IntKind.i64.wrap (hv3 + (1 : Int)))] hv10 < m [.int .i64 hv3] hv4)
    ∧ ( let hv11 : Heap := hv5.push (.cells #[.int .i64 hv3] 3)
     Fr Mv hv4 hv11 ∧
     callX Try.prog 88 #[.agg #[.int .i64 g, .slice gA gL gC], .int .i64 hv3] hv11 [hv5.size, h.size] fun v3 hv12 =>
     ∃ r3 : Int, v3 = .int .i64 r3 ∧
     Fr Mv hv4 hv12 ∧
     ∃ b3 o3, (some (⟨hv.size, 0, none⟩ : Addr)) = some ⟨b3, o3, none⟩ ∧ 0 ≤ r3 ∧ r3 < ((Int.toNat g) : Nat) ∧ b3 ∉ Mv ∧ ∃ (xA2 : Option Addr) (xL2 xC2 : Nat), hcell hv4 b3 (o3 + (Int.toNat r3) * 1) = some (.slice xA2 xL2 xC2) ∧ ∃ old2, Own hv12 3 1 xA2 xL2 xC2 old2 ∧ (∀ b ∈ ([hv5.size, h.size] : List Nat), b ∉ blkOf xA2) ∧ (xL2 + 1) * 8 ≤ 140737488355328 ∧ (xL2 + 1) ≤ maxLen ∧
     ∀ sA2 sC2 hv14, Own hv14 3 1 sA2 (xL2 + 1) sC2 (old2 ++ [.int .i64 hv3]) → Fr (blkOf xA2) hv12 hv14 → ((sA2 = xA2 ∧ sC2 = xC2) ∨ ∃ g, sA2 = some ⟨g, 0, none⟩ ∧ hv12.size ≤ g) →
     Fr Mv hv4 hv14 ∧
     ∃ b4 o4, (some (⟨hv.size, 0, none⟩ : Addr)) = some ⟨b4, o4, none⟩ ∧ 0 ≤ r ∧ r < ((Int.toNat g) : Nat) ∧ b4 ≠ hv5.size ∧ b4 ≠ h.size ∧ (∃ u, hcell hv14 b4 (o4 + (Int.toNat r) * 1) = some u) ∧ hfree hv14 b4 (o4 + (Int.toNat r) * 1) = true ∧ let hv15 : Heap := hset hv14 b4 (o4 + (Int.toNat r) * 1) (.slice sA2 (xL2 + 1) sC2)
     Iv [.int .i64 (IntKind.i64.wrap (hv3 + (1 : Int)))] hv15 ∧ m [.int .i64 (IntKind.i64.wrap (hv3 + (1 : Int)))] hv15 < m [.int .i64 hv3] hv4))
    ∧ ( let hv16 : Heap := hv4.push (.cells #[.int .i64 hv3] 3)
     Fr Mv hv4 hv16 ∧
     callX Try.prog 88 #[.agg #[.int .i64 g, .slice gA gL gC], .int .i64 hv3] hv16 [hv4.size, h.size] fun v4 hv17 =>
     ∃ r4 : Int, v4 = .int .i64 r4 ∧
     Fr Mv hv4 hv17 ∧
     callX Try.prog 88 #[.agg #[.int .i64 g, .slice gA gL gC], .int .i64 hv3] hv17 [hv4.size, h.size] fun v5 hv18 =>
     ∃ r5 : Int, v5 = .int .i64 r5 ∧
     Fr Mv hv4 hv18 ∧
     ∃ b5 o5, (some (⟨hv.size, 0, none⟩ : Addr)) = some ⟨b5, o5, none⟩ ∧ 0 ≤ r5 ∧ r5 < ((Int.toNat g) : Nat) ∧ b5 ∉ Mv ∧ ∃ (xA3 : Option Addr) (xL3 xC3 : Nat), hcell hv4 b5 (o5 + (Int.toNat r5) * 1) = some (.slice xA3 xL3 xC3) ∧ ∃ old3, Own hv18 3 1 xA3 xL3 xC3 old3 ∧ (∀ b ∈ ([hv4.size, h.size] : List Nat), b ∉ blkOf xA3) ∧ (xL3 + 1) * 8 ≤ 140737488355328 ∧ (xL3 + 1) ≤ maxLen ∧
     ∀ sA3 sC3 hv20, Own hv20 3 1 sA3 (xL3 + 1) sC3 (old3 ++ [.int .i64 hv3]) → Fr (blkOf xA3) hv18 hv20 → ((sA3 = xA3 ∧ sC3 = xC3) ∨ ∃ g, sA3 = some ⟨g, 0, none⟩ ∧ hv18.size ≤ g) →
     Fr Mv hv4 hv20 ∧
     ∃ b6 o6, (some (⟨hv.size, 0, none⟩ : Addr)) = some ⟨b6, o6, none⟩ ∧ 0 ≤ r4 ∧ r4 < ((Int.toNat g) : Nat) ∧ b6 ≠ hv4.size ∧ b6 ≠ h.size ∧ (∃ u, hcell hv20 b6 (o6 + (Int.toNat r4) * 1) = some u) ∧ hfree hv20 b6 (o6 + (Int.toNat r4) * 1) = true ∧ let hv21 : Heap := hset hv20 b6 (o6 + (Int.toNat r4) * 1) (.slice sA3 (xL3 + 1) sC3)
     Iv [.int .i64 (IntKind.i64.wrap (hv3 + (1 : Int)))] hv21 ∧ m [.int .i64 (IntKind.i64.wrap (hv3 + (1 : Int)))] hv21 < m [.int .i64 hv3] hv4))
    (R (.slice (some (⟨hv.size, 0, none⟩ : Addr)) (Int.toNat g) (Int.toNat g)) hv4)

theorem calls54 {h : Heap} {R : Value → Heap → Prop} (g : Int) (gA : Option Addr) (gL gC : Nat) (H : S54 g gA gL gC h R) : CallsH Try.prog 54 #[.agg #[.int .i64 g, .slice gA gL gC]] h R := by
  have e : S54 g gA gL gC h R = FX (envX [1, 27] 31) { loops := [(0, ⟨[1, 3], [4], [1], []⟩)], joins := [], blocks := [], draws := [(5, ⟨13, true⟩)] } Try.f54 (Try.f54.body.getD .skip) [.agg #[.int .i64 g, .slice gA gL gC]] h R := by kernel_rfl
  exact calls_of_FX (envX_ok _ _) Try.func54 (by kernel_rfl) (by kernel_rfl) (by kernel_rfl) (e ▸ H)

/-- tracery/traceryref3.To -/
def S55 (g : Int) (gA : Option Addr) (gL gC : Nat) (hv : Int) (h : Heap) (R : Value → Heap → Prop) : Prop :=
  let hv2 : Heap := h.push (.cells #[.int .i64 g, .slice gA gL gC] 26)
  (2 : Int) ≠ 0 ∧ (2 : Int) ≠ 0 ∧ ∃ b o, gA = some ⟨b, o, none⟩ ∧ 0 ≤ (IntKind.i64.wrap (Int.tdiv hv (2 : Int))) ∧ (IntKind.i64.wrap (Int.tdiv hv (2 : Int))) < (gL : Nat) ∧ 0 ≤ (IntKind.i64.wrap ((1 : Int) - (Int.tmod hv (2 : Int)))) ∧ (IntKind.i64.wrap ((1 : Int) - (Int.tmod hv (2 : Int)))) < ((2 : Nat) : Int) ∧ ∃ x : Int, hcell hv2 b ((o + (Int.toNat (IntKind.i64.wrap (Int.tdiv hv (2 : Int)))) * 2) + (Int.toNat (IntKind.i64.wrap ((1 : Int) - (Int.tmod hv (2 : Int))))) * 1) = some (.int .i64 x) ∧ R (.int .i64 x) hv2

theorem calls55 {h : Heap} {R : Value → Heap → Prop} (g : Int) (gA : Option Addr) (gL gC : Nat) (hv : Int) (H : S55 g gA gL gC hv h R) : CallsH Try.prog 55 #[.agg #[.int .i64 g, .slice gA gL gC], .int .i64 hv] h R := by
  have e : S55 g gA gL gC hv h R = FX (envX [2] 15) { loops := [], joins := [], blocks := [], draws := [] } Try.f55 (Try.f55.body.getD .skip) [.agg #[.int .i64 g, .slice gA gL gC], .int .i64 hv] h R := by kernel_rfl
  exact calls_of_FX (envX_ok _ _) Try.func55 (by kernel_rfl) (by kernel_rfl) (by kernel_rfl) (e ▸ H)

/-- tracery/traceryref3.From -/
def S88 (g : Int) (gA : Option Addr) (gL gC : Nat) (hv : Int) (h : Heap) (R : Value → Heap → Prop) : Prop :=
  let hv2 : Heap := h.push (.cells #[.int .i64 g, .slice gA gL gC] 26)
  (2 : Int) ≠ 0 ∧ (2 : Int) ≠ 0 ∧ ∃ b o, gA = some ⟨b, o, none⟩ ∧ 0 ≤ (IntKind.i64.wrap (Int.tdiv hv (2 : Int))) ∧ (IntKind.i64.wrap (Int.tdiv hv (2 : Int))) < (gL : Nat) ∧ 0 ≤ (Int.tmod hv (2 : Int)) ∧ (Int.tmod hv (2 : Int)) < ((2 : Nat) : Int) ∧ ∃ x : Int, hcell hv2 b ((o + (Int.toNat (IntKind.i64.wrap (Int.tdiv hv (2 : Int)))) * 2) + (Int.toNat (Int.tmod hv (2 : Int))) * 1) = some (.int .i64 x) ∧ R (.int .i64 x) hv2

theorem calls88 {h : Heap} {R : Value → Heap → Prop} (g : Int) (gA : Option Addr) (gL gC : Nat) (hv : Int) (H : S88 g gA gL gC hv h R) : CallsH Try.prog 88 #[.agg #[.int .i64 g, .slice gA gL gC], .int .i64 hv] h R := by
  have e : S88 g gA gL gC hv h R = FX (envX [2] 14) { loops := [], joins := [], blocks := [], draws := [] } Try.f88 (Try.f88.body.getD .skip) [.agg #[.int .i64 g, .slice gA gL gC], .int .i64 hv] h R := by kernel_rfl
  exact calls_of_FX (envX_ok _ _) Try.func88 (by kernel_rfl) (by kernel_rfl) (by kernel_rfl) (e ▸ H)

/-- tracery/maker.made -/
def S112 (ev : Int) (n : Int) (makeF : Nat) (makeY : List Value) (h : Heap) (R : Value → Heap → Prop) : Prop :=
  let hv : Heap := h.push (.cells #[.int .i64 0, .slice none 0 0] 26)
  cnd (ev != (0 : Int))
    (let hv2 : Heap := hset (hset hv h.size 0 (.int .i64 0)) h.size (0 + 1) (.slice none 0 0)
    R (.tuple #[.agg #[.int .i64 0, .slice none 0 0], .int .i64 ev]) hv2)
    (let hv3 : Heap := hv.push (.cells #[.int .i64 n, .slice none 0 0] 229)
    callX Try.prog makeF (List.toArray (#[.pointer (some (⟨hv.size, 0, none⟩ : Addr))].toList ++ makeY)) hv3 [h.size] fun v hv4 =>
    v = .tuple #[] ∧
    ∃ x : Int, hcell hv4 hv.size 0 = some (.int .i64 x) ∧ ∃ (xA : Option Addr) (xL xC : Nat), hcell hv4 hv.size (0 + 1) = some (.slice xA xL xC) ∧ let hv5 : Heap := hset (hset hv4 h.size 0 (.int .i64 x)) h.size (0 + 1) (.slice xA xL xC)
    R (.tuple #[.agg #[.int .i64 x, .slice xA xL xC], .int .i64 0]) hv5)

theorem calls112_120 {h : Heap} {R : Value → Heap → Prop} (ev : Int) (n : Int) (c0P : Option Addr) (H : S112 ev n 120 [.pointer c0P] h R) : CallsH Try.prog 112 #[.int .i64 ev, .int .i64 n, .func (.func 120) #[] #[.pointer c0P]] h R := by
  have e : S112 ev n 120 [.pointer c0P] h R = FX (envX [6] 24) { loops := [], joins := [], blocks := [], draws := [] } Try.f112 (Try.f112.body.getD .skip) [.int .i64 ev, .int .i64 n, .func (.func 120) #[] #[.pointer c0P]] h R := by kernel_rfl
  exact calls_of_FX (envX_ok _ _) Try.func112 (by kernel_rfl) (by kernel_rfl) (by kernel_rfl) (e ▸ H)

theorem calls112_121 {h : Heap} {R : Value → Heap → Prop} (ev : Int) (n : Int) (c0P : Option Addr) (H : S112 ev n 121 [.pointer c0P] h R) : CallsH Try.prog 112 #[.int .i64 ev, .int .i64 n, .func (.func 121) #[] #[.pointer c0P]] h R := by
  have e : S112 ev n 121 [.pointer c0P] h R = FX (envX [6] 24) { loops := [], joins := [], blocks := [], draws := [] } Try.f112 (Try.f112.body.getD .skip) [.int .i64 ev, .int .i64 n, .func (.func 121) #[] #[.pointer c0P]] h R := by kernel_rfl
  exact calls_of_FX (envX_ok _ _) Try.func112 (by kernel_rfl) (by kernel_rfl) (by kernel_rfl) (e ▸ H)

theorem calls112_122 {h : Heap} {R : Value → Heap → Prop} (ev : Int) (n : Int) (c0P : Option Addr) (H : S112 ev n 122 [.pointer c0P] h R) : CallsH Try.prog 112 #[.int .i64 ev, .int .i64 n, .func (.func 122) #[] #[.pointer c0P]] h R := by
  have e : S112 ev n 122 [.pointer c0P] h R = FX (envX [6] 24) { loops := [], joins := [], blocks := [], draws := [] } Try.f112 (Try.f112.body.getD .skip) [.int .i64 ev, .int .i64 n, .func (.func 122) #[] #[.pointer c0P]] h R := by kernel_rfl
  exact calls_of_FX (envX_ok _ _) Try.func112 (by kernel_rfl) (by kernel_rfl) (by kernel_rfl) (e ▸ H)

theorem calls112_123 {h : Heap} {R : Value → Heap → Prop} (ev : Int) (n : Int) (c0P : Option Addr) (H : S112 ev n 123 [.pointer c0P] h R) : CallsH Try.prog 112 #[.int .i64 ev, .int .i64 n, .func (.func 123) #[] #[.pointer c0P]] h R := by
  have e : S112 ev n 123 [.pointer c0P] h R = FX (envX [6] 24) { loops := [], joins := [], blocks := [], draws := [] } Try.f112 (Try.f112.body.getD .skip) [.int .i64 ev, .int .i64 n, .func (.func 123) #[] #[.pointer c0P]] h R := by kernel_rfl
  exact calls_of_FX (envX_ok _ _) Try.func112 (by kernel_rfl) (by kernel_rfl) (by kernel_rfl) (e ▸ H)

theorem calls112_125 {h : Heap} {R : Value → Heap → Prop} (ev : Int) (n : Int) (c0P : Option Addr) (c1P : Option Addr) (H : S112 ev n 125 [.pointer c0P, .pointer c1P] h R) : CallsH Try.prog 112 #[.int .i64 ev, .int .i64 n, .func (.func 125) #[] #[.pointer c0P, .pointer c1P]] h R := by
  have e : S112 ev n 125 [.pointer c0P, .pointer c1P] h R = FX (envX [6] 24) { loops := [], joins := [], blocks := [], draws := [] } Try.f112 (Try.f112.body.getD .skip) [.int .i64 ev, .int .i64 n, .func (.func 125) #[] #[.pointer c0P, .pointer c1P]] h R := by kernel_rfl
  exact calls_of_FX (envX_ok _ _) Try.func112 (by kernel_rfl) (by kernel_rfl) (by kernel_rfl) (e ▸ H)

theorem calls112_126 {h : Heap} {R : Value → Heap → Prop} (ev : Int) (n : Int) (c0P : Option Addr) (c1P : Option Addr) (H : S112 ev n 126 [.pointer c0P, .pointer c1P] h R) : CallsH Try.prog 112 #[.int .i64 ev, .int .i64 n, .func (.func 126) #[] #[.pointer c0P, .pointer c1P]] h R := by
  have e : S112 ev n 126 [.pointer c0P, .pointer c1P] h R = FX (envX [6] 24) { loops := [], joins := [], blocks := [], draws := [] } Try.f112 (Try.f112.body.getD .skip) [.int .i64 ev, .int .i64 n, .func (.func 126) #[] #[.pointer c0P, .pointer c1P]] h R := by kernel_rfl
  exact calls_of_FX (envX_ok _ _) Try.func112 (by kernel_rfl) (by kernel_rfl) (by kernel_rfl) (e ▸ H)

theorem calls112_114 {h : Heap} {R : Value → Heap → Prop} (ev : Int) (n : Int) (c0P : Option Addr) (c1P : Option Addr) (H : S112 ev n 114 [.pointer c0P, .pointer c1P] h R) : CallsH Try.prog 112 #[.int .i64 ev, .int .i64 n, .func (.func 114) #[] #[.pointer c0P, .pointer c1P]] h R := by
  have e : S112 ev n 114 [.pointer c0P, .pointer c1P] h R = FX (envX [6] 24) { loops := [], joins := [], blocks := [], draws := [] } Try.f112 (Try.f112.body.getD .skip) [.int .i64 ev, .int .i64 n, .func (.func 114) #[] #[.pointer c0P, .pointer c1P]] h R := by kernel_rfl
  exact calls_of_FX (envX_ok _ _) Try.func112 (by kernel_rfl) (by kernel_rfl) (by kernel_rfl) (e ▸ H)

theorem calls112_200 {h : Heap} {R : Value → Heap → Prop} (ev : Int) (n : Int) (c0P : Option Addr) (H : S112 ev n 200 [.pointer c0P] h R) : CallsH Try.prog 112 #[.int .i64 ev, .int .i64 n, .func (.func 200) #[] #[.pointer c0P]] h R := by
  have e : S112 ev n 200 [.pointer c0P] h R = FX (envX [6] 24) { loops := [], joins := [], blocks := [], draws := [] } Try.f112 (Try.f112.body.getD .skip) [.int .i64 ev, .int .i64 n, .func (.func 200) #[] #[.pointer c0P]] h R := by kernel_rfl
  exact calls_of_FX (envX_ok _ _) Try.func112 (by kernel_rfl) (by kernel_rfl) (by kernel_rfl) (e ▸ H)

theorem calls112_201 {h : Heap} {R : Value → Heap → Prop} (ev : Int) (n : Int) (c0P : Option Addr) (H : S112 ev n 201 [.pointer c0P] h R) : CallsH Try.prog 112 #[.int .i64 ev, .int .i64 n, .func (.func 201) #[] #[.pointer c0P]] h R := by
  have e : S112 ev n 201 [.pointer c0P] h R = FX (envX [6] 24) { loops := [], joins := [], blocks := [], draws := [] } Try.f112 (Try.f112.body.getD .skip) [.int .i64 ev, .int .i64 n, .func (.func 201) #[] #[.pointer c0P]] h R := by kernel_rfl
  exact calls_of_FX (envX_ok _ _) Try.func112 (by kernel_rfl) (by kernel_rfl) (by kernel_rfl) (e ▸ H)

theorem calls112_202 {h : Heap} {R : Value → Heap → Prop} (ev : Int) (n : Int) (c0P : Option Addr) (c1P : Option Addr) (c2P : Option Addr) (H : S112 ev n 202 [.pointer c0P, .pointer c1P, .pointer c2P] h R) : CallsH Try.prog 112 #[.int .i64 ev, .int .i64 n, .func (.func 202) #[] #[.pointer c0P, .pointer c1P, .pointer c2P]] h R := by
  have e : S112 ev n 202 [.pointer c0P, .pointer c1P, .pointer c2P] h R = FX (envX [6] 24) { loops := [], joins := [], blocks := [], draws := [] } Try.f112 (Try.f112.body.getD .skip) [.int .i64 ev, .int .i64 n, .func (.func 202) #[] #[.pointer c0P, .pointer c1P, .pointer c2P]] h R := by kernel_rfl
  exact calls_of_FX (envX_ok _ _) Try.func112 (by kernel_rfl) (by kernel_rfl) (by kernel_rfl) (e ▸ H)

/-- tracery/maker.sized -/
def S113 (least : Int) (numbersA : Option Addr) (numbersL numbersC : Nat) (n : Int) (m : Int) (h : Heap) (R : Value → Heap → Prop) : Prop :=
  ∃ (Iv : List Value → Heap → Prop) (m2 : List Value → Heap → Nat), Iv [.int .i64 0] h ∧ -- loop 0: ['15'] []
  ∀ x : Int, ∀ hv, Iv [.int .i64 x] hv →
  cnd (decide (x < ((numbersL : Nat) : Int)))
    (∃ b o, numbersA = some ⟨b, o, none⟩ ∧ 0 ≤ x ∧ x < (numbersL : Nat) ∧ ∃ x2 : Int, hcell hv b (o + (Int.toNat x) * 1) = some (.int .i64 x2) ∧ cnd (decide (x2 < least))
      (R (.int .i64 1) hv)
      (Iv [.int .i64 (IntKind.i64.wrap (x + (1 : Int)))] hv ∧ m2 [.int .i64 (IntKind.i64.wrap (x + (1 : Int)))] hv < m2 [.int .i64 x] hv))
    (∃ (Iv2 : List Value → Heap → Prop) (m3 : List Value → Heap → Nat), Iv2 [.int .i64 0] hv ∧ -- loop 2: ['25'] []
    ∀ x3 : Int, ∀ hv2, Iv2 [.int .i64 x3] hv2 →
    cnd (decide (x3 < ((numbersL : Nat) : Int)))
      (∃ b2 o2, numbersA = some ⟨b2, o2, none⟩ ∧ 0 ≤ x3 ∧ x3 < (numbersL : Nat) ∧ ∃ x4 : Int, hcell hv2 b2 (o2 + (Int.toNat x3) * 1) = some (.int .i64 x4) ∧ cnd (decide (x4 > (3072 : Int)))
        (R (.int .i64 3) hv2)
        (Iv2 [.int .i64 (IntKind.i64.wrap (x3 + (1 : Int)))] hv2 ∧ m3 [.int .i64 (IntKind.i64.wrap (x3 + (1 : Int)))] hv2 < m3 [.int .i64 x3] hv2))
      (cnd (decide (n > (1024 : Int)))
        (R (.int .i64 3) hv2)
        (cnd (decide (m > (3072 : Int)))
           (R (.int .i64 3) hv2)
           (R (.int .i64 0) hv2))))

theorem calls113 {h : Heap} {R : Value → Heap → Prop} (least : Int) (numbersA : Option Addr) (numbersL numbersC : Nat) (n : Int) (m : Int) (H : S113 least numbersA numbersL numbersC n m h R) : CallsH Try.prog 113 #[.int .i64 least, .slice numbersA numbersL numbersC, .int .i64 n, .int .i64 m] h R := by
  have e : S113 least numbersA numbersL numbersC n m h R = FX (envX [] 38) { loops := [(0, ⟨[0, 1, 2, 3, 13, 14], [15], [], []⟩), (2, ⟨[2, 3, 23, 24], [25], [], []⟩)], joins := [], blocks := [], draws := [] } Try.f113 (Try.f113.body.getD .skip) [.int .i64 least, .slice numbersA numbersL numbersC, .int .i64 n, .int .i64 m] h R := by kernel_rfl
  exact calls_of_FX (envX_ok _ _) Try.func113 (by kernel_rfl) (by kernel_rfl) (by kernel_rfl) (e ▸ H)

/-- tracery/maker.Stack$1 -/
def S114 (dP : Option Addr) (fv : Option Addr) (fv2 : Option Addr) (h : Heap) (R : Value → Heap → Prop) : Prop :=
  callX Try.prog 115 #[.pointer dP, .int .i64 0, .int .i64 3] h [] fun v hv =>
  v = .tuple #[] ∧
  ∃ b o, fv = some ⟨b, o, none⟩ ∧ ∃ x : Int, hcell hv b o = some (.int .u64 x) ∧ let hv2 : Heap := hv.push (.cells #[.int .u64 x] 166)
  let hv3 : Heap := hv2.push (.cells #[.int .i64 0, .int .i64 1, .int .i64 2, .int .i64 0, .int .i64 2, .int .i64 1] 167)
  ∃ (Iv : List Value → Heap → Prop) (m : List Value → Heap → Nat), Iv [.slice (some (⟨hv2.size, 0, none⟩ : Addr)) 2 2, .int .i64 3] hv3 ∧ -- loop 0: ['l', 'v'] []
  ∀ (lA : Option Addr) (lL lC : Nat), ∀ v2 : Int, ∀ hv4, Iv [.slice lA lL lC, .int .i64 v2] hv4 →
  ∃ b2 o2, fv2 = some ⟨b2, o2, none⟩ ∧ ∃ x2 : Int, hcell hv4 b2 o2 = some (.int .i64 x2) ∧ cnd (decide (v2 < x2))
    (callX Try.prog 116 #[.pointer (some (⟨hv.size, 0, none⟩ : Addr)), .int .i64 ((lL : Nat) : Int)] hv4 [] fun v3 hv5 =>
    ∃ r : Int, v3 = .int .i64 r ∧
    ∃ b3 o3, lA = some ⟨b3, o3, none⟩ ∧ 0 ≤ r ∧ r < (lL : Nat) ∧ ∃ x3 : Int, hcell hv5 b3 (o3 + (Int.toNat r) * 3) = some (.int .i64 x3) ∧ ∃ x4 : Int, hcell hv5 b3 ((o3 + (Int.toNat r) * 3) + 1) = some (.int .i64 x4) ∧ ∃ x5 : Int, hcell hv5 b3 (((o3 + (Int.toNat r) * 3) + 1) + 1) = some (.int .i64 x5) ∧ let hv6 : Heap := hv5.push (.cells #[.int .i64 0, .int .i64 0, .int .i64 0] 167)
    let hv7 : Heap := hset (hset (hset hv6 hv5.size 0 (.int .i64 x3)) hv5.size (0 + 1) (.int .i64 x4)) hv5.size ((0 + 1) + 1) (.int .i64 x5)
    ∃ (Iv2 : List Value → Heap → Prop) (m2 : List Value → Heap → Nat), Iv2 [.int .i64 0] hv7 ∧ -- loop 2: ['33'] []
    ∀ x6 : Int, ∀ hv8, Iv2 [.int .i64 x6] hv8 →
    cnd (decide (x6 < (3 : Int)))
      (0 ≤ x6 ∧ x6 < ((3 : Nat) : Int) ∧ ∃ x7 : Int, (#[.int .i64 x3, .int .i64 x4, .int .i64 x5] : Array Value)[Int.toNat x6]? = some (.int .i64 x7) ∧ callX Try.prog 117 #[.pointer dP, .int .i64 v2, .int .i64 x7] hv8 [hv5.size] fun v4 hv9 =>
      v4 = .tuple #[] ∧
      Iv2 [.int .i64 (IntKind.i64.wrap (x6 + (1 : Int)))] hv9 ∧ m2 [.int .i64 (IntKind.i64.wrap (x6 + (1 : Int)))] hv9 < m2 [.int .i64 x6] hv8)
      (∃ b4 o4, lA = some ⟨b4, o4, none⟩ ∧ 0 ≤ r ∧ r < (lL : Nat) ∧ b4 ≠ hv5.size ∧ (∃ u, hcell hv8 b4 (o4 + (Int.toNat r) * 3) = some u) ∧ hfree hv8 b4 (o4 + (Int.toNat r) * 3) = true ∧ (∃ u, hcell hv8 b4 ((o4 + (Int.toNat r) * 3) + 1) = some u) ∧ hfree hv8 b4 ((o4 + (Int.toNat r) * 3) + 1) = true ∧ (∃ u, hcell hv8 b4 (((o4 + (Int.toNat r) * 3) + 1) + 1) = some u) ∧ hfree hv8 b4 (((o4 + (Int.toNat r) * 3) + 1) + 1) = true ∧ let hv10 : Heap := hset (hset (hset hv8 b4 (o4 + (Int.toNat r) * 3) (.int .i64 x3)) b4 ((o4 + (Int.toNat r) * 3) + 1) (.int .i64 x4)) b4 (((o4 + (Int.toNat r) * 3) + 1) + 1) (.int .i64 v2)
      let hv11 : Heap := hv10.push (.cells #[.int .i64 x4, .int .i64 x5, .int .i64 v2, .int .i64 x5, .int .i64 x3, .int .i64 v2] 167)
      ∃ old, Own hv11 167 3 lA lL lC old ∧ (∀ b ∈ ([hv10.size, hv5.size] : List Nat), b ∉ blkOf lA) ∧ (lL + 2) * 24 ≤ 140737488355328 ∧ (lL + 2) ≤ maxLen ∧
      ∀ sA sC hv13, Own hv13 167 3 sA (lL + 2) sC (old ++ [.int .i64 x4, .int .i64 x5, .int .i64 v2, .int .i64 x5, .int .i64 x3, .int .i64 v2]) → Fr (blkOf lA) hv11 hv13 → ((sA = lA ∧ sC = lC) ∨ ∃ g, sA = some ⟨g, 0, none⟩ ∧ hv11.size ≤ g) →
      Iv [.slice sA (lL + 2) sC, .int .i64 (IntKind.i64.wrap (v2 + (1 : Int)))] hv13 ∧ m [.slice sA (lL + 2) sC, .int .i64 (IntKind.i64.wrap (v2 + (1 : Int)))] hv13 < m [.slice lA lL lC, .int .i64 v2] hv4))
    (R (.tuple #[]) hv4)

theorem calls114 {h : Heap} {R : Value → Heap → Prop} (dP : Option Addr) (fv : Option Addr) (fv2 : Option Addr) (H : S114 dP fv fv2 h R) : CallsH Try.prog 114 #[.pointer dP, .pointer fv, .pointer fv2] h R := by
  have e : S114 dP fv fv2 h R = FX (envX [8, 63] 65) { loops := [(0, ⟨[0, 2, 4], [5, 6], [], []⟩), (2, ⟨[0, 2, 4, 5, 6, 7, 8, 32], [33], [8], []⟩)], joins := [], blocks := [], draws := [] } Try.f114 (Try.f114.body.getD .skip) [.pointer dP, .pointer fv, .pointer fv2] h R := by kernel_rfl
  exact calls_of_FX (envX_ok _ _) Try.func114 (by kernel_rfl) (by kernel_rfl) (by kernel_rfl) (e ▸ H)

/-- (*tracery/maker.draft).cycle -/
def S115 (dP : Option Addr) (fromv : Int) (n : Int) (h : Heap) (R : Value → Heap → Prop) : Prop :=
  ∃ (Iv : List Value → Heap → Prop) (m : List Value → Heap → Nat), Iv [.int .i64 0] h ∧ -- loop 0: ['9'] []
  ∀ x : Int, ∀ hv, Iv [.int .i64 x] hv →
  cnd (decide (x < (IntKind.i64.wrap (n - (1 : Int)))))
    (callX Try.prog 117 #[.pointer dP, .int .i64 (IntKind.i64.wrap (fromv + x)), .int .i64 (IntKind.i64.wrap ((IntKind.i64.wrap (fromv + x)) + (1 : Int)))] hv [] fun v hv2 =>
    v = .tuple #[] ∧
    Iv [.int .i64 (IntKind.i64.wrap (x + (1 : Int)))] hv2 ∧ m [.int .i64 (IntKind.i64.wrap (x + (1 : Int)))] hv2 < m [.int .i64 x] hv)
    (callX Try.prog 117 #[.pointer dP, .int .i64 (IntKind.i64.wrap ((IntKind.i64.wrap (fromv + n)) - (1 : Int))), .int .i64 fromv] hv [] fun v2 hv3 =>
    v2 = .tuple #[] ∧
    R (.tuple #[]) hv3)

theorem calls115 {h : Heap} {R : Value → Heap → Prop} (dP : Option Addr) (fromv : Int) (n : Int) (H : S115 dP fromv n h R) : CallsH Try.prog 115 #[.pointer dP, .int .i64 fromv, .int .i64 n] h R := by
  have e : S115 dP fromv n h R = FX (envX [] 29) { loops := [(0, ⟨[0, 1, 2, 8], [9], [], []⟩)], joins := [], blocks := [], draws := [] } Try.f115 (Try.f115.body.getD .skip) [.pointer dP, .int .i64 fromv, .int .i64 n] h R := by kernel_rfl
  exact calls_of_FX (envX_ok _ _) Try.func115 (by kernel_rfl) (by kernel_rfl) (by kernel_rfl) (e ▸ H)

/-- (*tracery/maker.dice).draw -/
def S116 (rP : Option Addr) (n : Int) (h : Heap) (R : Value → Heap → Prop) : Prop :=
  ∃ b o, rP = some ⟨b, o, none⟩ ∧ ∃ x : Int, hcell h b o = some (.int .u64 x) ∧ ∃ b2 o2, rP = some ⟨b2, o2, none⟩ ∧ (∃ u, hcell h b2 o2 = some u) ∧ hfree h b2 o2 = true ∧ let hv : Heap := hset h b2 o2 (.int .u64 (IntKind.u64.wrap ((IntKind.u64.wrap (x * (6364136223846793005 : Int))) + (1442695040888963407 : Int))))
  ∃ b3 o3, rP = some ⟨b3, o3, none⟩ ∧ ∃ x2 : Int, hcell hv b3 o3 = some (.int .u64 x2) ∧ 0 ≤ (33 : Int) ∧ (IntKind.u64.wrap n) ≠ 0 ∧ R (.int .i64 (IntKind.i64.wrap (Int.tmod (Int.fdiv x2 (2 ^ (min (Int.toNat (33 : Int)) 64))) (IntKind.u64.wrap n)))) hv

theorem calls116 {h : Heap} {R : Value → Heap → Prop} (rP : Option Addr) (n : Int) (H : S116 rP n h R) : CallsH Try.prog 116 #[.pointer rP, .int .i64 n] h R := by
  have e : S116 rP n h R = FX (envX [] 23) { loops := [], joins := [], blocks := [], draws := [] } Try.f116 (Try.f116.body.getD .skip) [.pointer rP, .int .i64 n] h R := by kernel_rfl
  exact calls_of_FX (envX_ok _ _) Try.func116 (by kernel_rfl) (by kernel_rfl) (by kernel_rfl) (e ▸ H)

/-- (*tracery/maker.draft).to -/
def S117 (dP : Option Addr) (u : Int) (v : Int) (h : Heap) (R : Value → Heap → Prop) : Prop :=
  ∃ b o, dP = some ⟨b, o, none⟩ ∧ ∃ (xA : Option Addr) (xL xC : Nat), hcell h b (o + 1) = some (.slice xA xL xC) ∧ let hv : Heap := h.push (.cells #[.int .i64 u, .int .i64 v] 35)
  ∃ old, Own hv 35 2 xA xL xC old ∧ (∀ b ∈ ([h.size] : List Nat), b ∉ blkOf xA) ∧ (xL + 1) * 16 ≤ 140737488355328 ∧ (xL + 1) ≤ maxLen ∧
  ∀ sA sC hv3, Own hv3 35 2 sA (xL + 1) sC (old ++ [.int .i64 u, .int .i64 v]) → Fr (blkOf xA) hv hv3 → ((sA = xA ∧ sC = xC) ∨ ∃ g, sA = some ⟨g, 0, none⟩ ∧ hv.size ≤ g) →
  ∃ b2 o2, dP = some ⟨b2, o2, none⟩ ∧ b2 ≠ h.size ∧ (∃ u, hcell hv3 b2 (o2 + 1) = some u) ∧ hfree hv3 b2 (o2 + 1) = true ∧ let hv4 : Heap := hset hv3 b2 (o2 + 1) (.slice sA (xL + 1) sC)
  R (.tuple #[]) hv4

theorem calls117 {h : Heap} {R : Value → Heap → Prop} (dP : Option Addr) (u : Int) (v : Int) (H : S117 dP u v h R) : CallsH Try.prog 117 #[.pointer dP, .int .i64 u, .int .i64 v] h R := by
  have e : S117 dP u v h R = FX (envX [15] 20) { loops := [], joins := [], blocks := [], draws := [] } Try.f117 (Try.f117.body.getD .skip) [.pointer dP, .int .i64 u, .int .i64 v] h R := by kernel_rfl
  exact calls_of_FX (envX_ok _ _) Try.func117 (by kernel_rfl) (by kernel_rfl) (by kernel_rfl) (e ▸ H)

/-- tracery/traceryref3.Parallel -/
def S118 (g : Int) (gA : Option Addr) (gL gC : Nat) (ev : Int) (h : Heap) (R : Value → Heap → Prop) : Prop :=
  let hv : Heap := h.push (.cells #[.int .i64 g, .slice gA gL gC] 26)
  ∃ (Iv : List Value → Heap → Prop) (m : List Value → Heap → Nat), Iv [.int .i64 0] hv ∧ -- loop 0: ['i'] []
  ∀ i : Int, ∀ hv2, Iv [.int .i64 i] hv2 →
  cnd (decide (i < ev))
    (∃ b o, gA = some ⟨b, o, none⟩ ∧ 0 ≤ i ∧ i < (gL : Nat) ∧ ∃ x : Int, hcell hv2 b (o + (Int.toNat i) * 2) = some (.int .i64 x) ∧ ∃ x2 : Int, hcell hv2 b ((o + (Int.toNat i) * 2) + 1) = some (.int .i64 x2) ∧ ∃ b2 o2, gA = some ⟨b2, o2, none⟩ ∧ 0 ≤ ev ∧ ev < (gL : Nat) ∧ ∃ x3 : Int, hcell hv2 b2 (o2 + (Int.toNat ev) * 2) = some (.int .i64 x3) ∧ ∃ x4 : Int, hcell hv2 b2 ((o2 + (Int.toNat ev) * 2) + 1) = some (.int .i64 x4) ∧ callX Try.prog 198 #[.agg #[.int .i64 x, .int .i64 x2]] hv2 [h.size] fun v hv3 =>
    ∃ r : Int, ∃ r2 : Int, v = .agg #[.int .i64 r, .int .i64 r2] ∧
    Fr [] hv2 hv3 ∧
    callX Try.prog 198 #[.agg #[.int .i64 x3, .int .i64 x4]] hv3 [h.size] fun v2 hv4 =>
    ∃ r3 : Int, ∃ r4 : Int, v2 = .agg #[.int .i64 r3, .int .i64 r4] ∧
    Fr [] hv2 hv4 ∧
    cnd ((r == r3) && (r2 == r4))
      (R (.bool true) hv4)
      (Iv [.int .i64 (IntKind.i64.wrap (i + (1 : Int)))] hv4 ∧ m [.int .i64 (IntKind.i64.wrap (i + (1 : Int)))] hv4 < m [.int .i64 i] hv2))
    (R (.bool false) hv2)

theorem calls118 {h : Heap} {R : Value → Heap → Prop} (g : Int) (gA : Option Addr) (gL gC : Nat) (ev : Int) (H : S118 g gA gL gC ev h R) : CallsH Try.prog 118 #[.agg #[.int .i64 g, .slice gA gL gC], .int .i64 ev] h R := by
  have e : S118 g gA gL gC ev h R = FX (envX [2] 24) { loops := [(0, ⟨[1, 2], [5], [2], []⟩)], joins := [], blocks := [], draws := [(4, ⟨13, false⟩)] } Try.f118 (Try.f118.body.getD .skip) [.agg #[.int .i64 g, .slice gA gL gC], .int .i64 ev] h R := by kernel_rfl
  exact calls_of_FX (envX_ok _ _) Try.func118 (by kernel_rfl) (by kernel_rfl) (by kernel_rfl) (e ▸ H)

/-- tracery/traceryref3.Degrees -/
def S119 (g : Int) (gA : Option Addr) (gL gC : Nat) (h : Heap) (R : Value → Heap → Prop) : Prop :=
  let hv : Heap := h.push (.cells #[.int .i64 g, .slice gA gL gC] 26)
  0 ≤ g ∧ g ≤ g ∧ ((8 : Nat) : Int) * g ≤ 281474976710656 ∧ g ≤ 9223372036854775807 ∧ let hv2 : Heap := hv.push (.cells (madeCells (List.toArray [.int .i64 0]) (Int.toNat g * 1)) 3)
  ∃ (Iv : List Value → Heap → Prop) (m : List Value → Heap → Nat), Iv [.int .i64 0] hv2 ∧ -- loop 0: ['h'] []
  ∀ hv3 : Int, ∀ hv4, Iv [.int .i64 hv3] hv4 →
  cnd (decide (hv3 < (IntKind.i64.wrap ((2 : Int) * ((gL : Nat) : Int)))))
    (callX Try.prog 88 #[.agg #[.int .i64 g, .slice gA gL gC], .int .i64 hv3] hv4 [h.size] fun v hv5 =>
    ∃ r : Int, v = .int .i64 r ∧
    ∃ b o, (some (⟨hv.size, 0, none⟩ : Addr)) = some ⟨b, o, none⟩ ∧ 0 ≤ r ∧ r < ((Int.toNat g) : Nat) ∧ ∃ x : Int, hcell hv5 b (o + (Int.toNat r) * 1) = some (.int .i64 x) ∧ ∃ b2 o2, (some (⟨hv.size, 0, none⟩ : Addr)) = some ⟨b2, o2, none⟩ ∧ 0 ≤ r ∧ r < ((Int.toNat g) : Nat) ∧ b2 ≠ h.size ∧ (∃ u, hcell hv5 b2 (o2 + (Int.toNat r) * 1) = some u) ∧ hfree hv5 b2 (o2 + (Int.toNat r) * 1) = true ∧ let hv6 : Heap := hset hv5 b2 (o2 + (Int.toNat r) * 1) (.int .i64 (IntKind.i64.wrap (x + (1 : Int))))
    Iv [.int .i64 (IntKind.i64.wrap (hv3 + (1 : Int)))] hv6 ∧ m [.int .i64 (IntKind.i64.wrap (hv3 + (1 : Int)))] hv6 < m [.int .i64 hv3] hv4)
    (R (.slice (some (⟨hv.size, 0, none⟩ : Addr)) (Int.toNat g) (Int.toNat g)) hv4)

theorem calls119 {h : Heap} {R : Value → Heap → Prop} (g : Int) (gA : Option Addr) (gL gC : Nat) (H : S119 g gA gL gC h R) : CallsH Try.prog 119 #[.agg #[.int .i64 g, .slice gA gL gC]] h R := by
  have e : S119 g gA gL gC h R = FX (envX [1] 25) { loops := [(0, ⟨[1, 3], [4], [1], []⟩)], joins := [], blocks := [], draws := [] } Try.f119 (Try.f119.body.getD .skip) [.agg #[.int .i64 g, .slice gA gL gC]] h R := by kernel_rfl
  exact calls_of_FX (envX_ok _ _) Try.func119 (by kernel_rfl) (by kernel_rfl) (by kernel_rfl) (e ▸ H)

/-- tracery/maker.Cycle$1 -/
def S120 (dP : Option Addr) (fv : Option Addr) (h : Heap) (R : Value → Heap → Prop) : Prop :=
  ∃ b o, fv = some ⟨b, o, none⟩ ∧ ∃ x : Int, hcell h b o = some (.int .i64 x) ∧ callX Try.prog 115 #[.pointer dP, .int .i64 0, .int .i64 x] h [] fun v hv =>
  v = .tuple #[] ∧
  R (.tuple #[]) hv

theorem calls120 {h : Heap} {R : Value → Heap → Prop} (dP : Option Addr) (fv : Option Addr) (H : S120 dP fv h R) : CallsH Try.prog 120 #[.pointer dP, .pointer fv] h R := by
  have e : S120 dP fv h R = FX (envX [] 6) { loops := [], joins := [], blocks := [], draws := [] } Try.f120 (Try.f120.body.getD .skip) [.pointer dP, .pointer fv] h R := by kernel_rfl
  exact calls_of_FX (envX_ok _ _) Try.func120 (by kernel_rfl) (by kernel_rfl) (by kernel_rfl) (e ▸ H)

/-- tracery/maker.Wheel$1 -/
def S121 (dP : Option Addr) (fv : Option Addr) (h : Heap) (R : Value → Heap → Prop) : Prop :=
  ∃ b o, fv = some ⟨b, o, none⟩ ∧ ∃ x : Int, hcell h b o = some (.int .i64 x) ∧ callX Try.prog 115 #[.pointer dP, .int .i64 0, .int .i64 x] h [] fun v hv =>
  v = .tuple #[] ∧
  ∃ b2 o2, fv = some ⟨b2, o2, none⟩ ∧ ∃ x2 : Int, hcell hv b2 o2 = some (.int .i64 x2) ∧ ∃ (Iv : List Value → Heap → Prop) (m : List Value → Heap → Nat), Iv [.int .i64 0] hv ∧ -- loop 0: ['8'] []
  ∀ x3 : Int, ∀ hv2, Iv [.int .i64 x3] hv2 →
  cnd (decide (x3 < x2))
    (∃ b3 o3, fv = some ⟨b3, o3, none⟩ ∧ ∃ x4 : Int, hcell hv2 b3 o3 = some (.int .i64 x4) ∧ callX Try.prog 117 #[.pointer dP, .int .i64 x4, .int .i64 x3] hv2 [] fun v2 hv3 =>
    v2 = .tuple #[] ∧
    Iv [.int .i64 (IntKind.i64.wrap (x3 + (1 : Int)))] hv3 ∧ m [.int .i64 (IntKind.i64.wrap (x3 + (1 : Int)))] hv3 < m [.int .i64 x3] hv2)
    (R (.tuple #[]) hv2)

theorem calls121 {h : Heap} {R : Value → Heap → Prop} (dP : Option Addr) (fv : Option Addr) (H : S121 dP fv h R) : CallsH Try.prog 121 #[.pointer dP, .pointer fv] h R := by
  have e : S121 dP fv h R = FX (envX [] 16) { loops := [(0, ⟨[0, 1, 7], [8], [], []⟩)], joins := [], blocks := [], draws := [] } Try.f121 (Try.f121.body.getD .skip) [.pointer dP, .pointer fv] h R := by kernel_rfl
  exact calls_of_FX (envX_ok _ _) Try.func121 (by kernel_rfl) (by kernel_rfl) (by kernel_rfl) (e ▸ H)

/-- tracery/maker.Prism$1 -/
def S122 (dP : Option Addr) (fv : Option Addr) (h : Heap) (R : Value → Heap → Prop) : Prop :=
  ∃ b o, fv = some ⟨b, o, none⟩ ∧ ∃ x : Int, hcell h b o = some (.int .i64 x) ∧ callX Try.prog 115 #[.pointer dP, .int .i64 0, .int .i64 x] h [] fun v hv =>
  v = .tuple #[] ∧
  ∃ b2 o2, fv = some ⟨b2, o2, none⟩ ∧ ∃ x2 : Int, hcell hv b2 o2 = some (.int .i64 x2) ∧ ∃ b3 o3, fv = some ⟨b3, o3, none⟩ ∧ ∃ x3 : Int, hcell hv b3 o3 = some (.int .i64 x3) ∧ callX Try.prog 115 #[.pointer dP, .int .i64 x2, .int .i64 x3] hv [] fun v2 hv2 =>
  v2 = .tuple #[] ∧
  ∃ b4 o4, fv = some ⟨b4, o4, none⟩ ∧ ∃ x4 : Int, hcell hv2 b4 o4 = some (.int .i64 x4) ∧ ∃ (Iv : List Value → Heap → Prop) (m : List Value → Heap → Nat), Iv [.int .i64 0] hv2 ∧ -- loop 0: ['12'] []
  ∀ x5 : Int, ∀ hv3, Iv [.int .i64 x5] hv3 →
  cnd (decide (x5 < x4))
    (∃ b5 o5, fv = some ⟨b5, o5, none⟩ ∧ ∃ x6 : Int, hcell hv3 b5 o5 = some (.int .i64 x6) ∧ callX Try.prog 117 #[.pointer dP, .int .i64 x5, .int .i64 (IntKind.i64.wrap (x6 + x5))] hv3 [] fun v3 hv4 =>
    v3 = .tuple #[] ∧
    Iv [.int .i64 (IntKind.i64.wrap (x5 + (1 : Int)))] hv4 ∧ m [.int .i64 (IntKind.i64.wrap (x5 + (1 : Int)))] hv4 < m [.int .i64 x5] hv3)
    (R (.tuple #[]) hv3)

theorem calls122 {h : Heap} {R : Value → Heap → Prop} (dP : Option Addr) (fv : Option Addr) (H : S122 dP fv h R) : CallsH Try.prog 122 #[.pointer dP, .pointer fv] h R := by
  have e : S122 dP fv h R = FX (envX [] 22) { loops := [(0, ⟨[0, 1, 11], [12], [], []⟩)], joins := [], blocks := [], draws := [] } Try.f122 (Try.f122.body.getD .skip) [.pointer dP, .pointer fv] h R := by kernel_rfl
  exact calls_of_FX (envX_ok _ _) Try.func122 (by kernel_rfl) (by kernel_rfl) (by kernel_rfl) (e ▸ H)

/-- tracery/maker.Complete$1 -/
def S123 (dP : Option Addr) (fv : Option Addr) (h : Heap) (R : Value → Heap → Prop) : Prop :=
  ∃ b o, fv = some ⟨b, o, none⟩ ∧ ∃ x : Int, hcell h b o = some (.int .i64 x) ∧ ∃ (Iv : List Value → Heap → Prop) (m : List Value → Heap → Nat), Iv [.int .i64 0] h ∧ -- loop 0: ['6'] []
  ∀ x2 : Int, ∀ hv, Iv [.int .i64 x2] hv →
  cnd (decide (x2 < x))
    (∃ (Iv2 : List Value → Heap → Prop) (m2 : List Value → Heap → Nat), Iv2 [.int .i64 (IntKind.i64.wrap (x2 + (1 : Int)))] hv ∧ -- loop 2: ['k'] []
    ∀ k : Int, ∀ hv2, Iv2 [.int .i64 k] hv2 →
    ∃ b2 o2, fv = some ⟨b2, o2, none⟩ ∧ ∃ x3 : Int, hcell hv2 b2 o2 = some (.int .i64 x3) ∧ cnd (decide (k < x3))
      (callX Try.prog 117 #[.pointer dP, .int .i64 x2, .int .i64 k] hv2 [] fun v hv3 =>
      v = .tuple #[] ∧
      Iv2 [.int .i64 (IntKind.i64.wrap (k + (1 : Int)))] hv3 ∧ m2 [.int .i64 (IntKind.i64.wrap (k + (1 : Int)))] hv3 < m2 [.int .i64 k] hv2)
      (Iv [.int .i64 (IntKind.i64.wrap (x2 + (1 : Int)))] hv2 ∧ m [.int .i64 (IntKind.i64.wrap (x2 + (1 : Int)))] hv2 < m [.int .i64 x2] hv))
    (R (.tuple #[]) hv)

theorem calls123 {h : Heap} {R : Value → Heap → Prop} (dP : Option Addr) (fv : Option Addr) (H : S123 dP fv h R) : CallsH Try.prog 123 #[.pointer dP, .pointer fv] h R := by
  have e : S123 dP fv h R = FX (envX [] 21) { loops := [(0, ⟨[0, 1, 5], [6], [], []⟩), (2, ⟨[0, 1, 3, 5, 6], [4], [], []⟩)], joins := [], blocks := [], draws := [] } Try.f123 (Try.f123.body.getD .skip) [.pointer dP, .pointer fv] h R := by kernel_rfl
  exact calls_of_FX (envX_ok _ _) Try.func123 (by kernel_rfl) (by kernel_rfl) (by kernel_rfl) (e ▸ H)

/-- tracery/maker.product -/
def S124 (a : Int) (b : Int) (h : Heap) (R : Value → Heap → Prop) : Prop :=
  cnd (decide (a < (0 : Int)))
    (R (.int .i64 0) h)
    (cnd (decide (b < (0 : Int)))
       (R (.int .i64 0) h)
       (cnd (decide (a > (3072 : Int)))
          (R (.int .i64 0) h)
          (cnd (decide (b > (3072 : Int)))
             (R (.int .i64 0) h)
             (R (.int .i64 (IntKind.i64.wrap (a * b))) h))))

theorem calls124 {h : Heap} {R : Value → Heap → Prop} (a : Int) (b : Int) (H : S124 a b h R) : CallsH Try.prog 124 #[.int .i64 a, .int .i64 b] h R := by
  have e : S124 a b h R = FX (envX [] 22) { loops := [], joins := [], blocks := [], draws := [] } Try.f124 (Try.f124.body.getD .skip) [.int .i64 a, .int .i64 b] h R := by kernel_rfl
  exact calls_of_FX (envX_ok _ _) Try.func124 (by kernel_rfl) (by kernel_rfl) (by kernel_rfl) (e ▸ H)

/-- tracery/maker.Two$1 -/
def S125 (dP : Option Addr) (fv : Option Addr) (fv2 : Option Addr) (h : Heap) (R : Value → Heap → Prop) : Prop :=
  ∃ b o, fv = some ⟨b, o, none⟩ ∧ ∃ x : Int, hcell h b o = some (.int .i64 x) ∧ ∃ (Iv : List Value → Heap → Prop) (m : List Value → Heap → Nat), Iv [.int .i64 0] h ∧ -- loop 0: ['7'] []
  ∀ x2 : Int, ∀ hv, Iv [.int .i64 x2] hv →
  cnd (decide (x2 < x))
    (∃ b2 o2, fv2 = some ⟨b2, o2, none⟩ ∧ ∃ x3 : Int, hcell hv b2 o2 = some (.int .i64 x3) ∧ ∃ (Iv2 : List Value → Heap → Prop) (m2 : List Value → Heap → Nat), Iv2 [.int .i64 0] hv ∧ -- loop 2: ['11'] []
    ∀ x4 : Int, ∀ hv2, Iv2 [.int .i64 x4] hv2 →
    cnd (decide (x4 < x3))
      (∃ b3 o3, fv = some ⟨b3, o3, none⟩ ∧ ∃ x5 : Int, hcell hv2 b3 o3 = some (.int .i64 x5) ∧ callX Try.prog 117 #[.pointer dP, .int .i64 x2, .int .i64 (IntKind.i64.wrap (x5 + x4))] hv2 [] fun v hv3 =>
      v = .tuple #[] ∧
      Iv2 [.int .i64 (IntKind.i64.wrap (x4 + (1 : Int)))] hv3 ∧ m2 [.int .i64 (IntKind.i64.wrap (x4 + (1 : Int)))] hv3 < m2 [.int .i64 x4] hv2)
      (Iv [.int .i64 (IntKind.i64.wrap (x2 + (1 : Int)))] hv2 ∧ m [.int .i64 (IntKind.i64.wrap (x2 + (1 : Int)))] hv2 < m [.int .i64 x2] hv))
    (R (.tuple #[]) hv)

theorem calls125 {h : Heap} {R : Value → Heap → Prop} (dP : Option Addr) (fv : Option Addr) (fv2 : Option Addr) (H : S125 dP fv fv2 h R) : CallsH Try.prog 125 #[.pointer dP, .pointer fv, .pointer fv2] h R := by
  have e : S125 dP fv fv2 h R = FX (envX [] 22) { loops := [(0, ⟨[0, 1, 2, 6], [7], [], []⟩), (2, ⟨[0, 1, 2, 4, 6, 7, 10], [11], [], []⟩)], joins := [], blocks := [], draws := [] } Try.f125 (Try.f125.body.getD .skip) [.pointer dP, .pointer fv, .pointer fv2] h R := by kernel_rfl
  exact calls_of_FX (envX_ok _ _) Try.func125 (by kernel_rfl) (by kernel_rfl) (by kernel_rfl) (e ▸ H)

/-- tracery/maker.Grid$1 -/
def S126 (dP : Option Addr) (fv : Option Addr) (fv2 : Option Addr) (h : Heap) (R : Value → Heap → Prop) : Prop :=
  ∃ b o, fv = some ⟨b, o, none⟩ ∧ ∃ x : Int, hcell h b o = some (.int .i64 x) ∧ ∃ (Iv : List Value → Heap → Prop) (m : List Value → Heap → Nat), Iv [.int .i64 0] h ∧ -- loop 0: ['8'] []
  ∀ x2 : Int, ∀ hv, Iv [.int .i64 x2] hv →
  cnd (decide (x2 < x))
    (∃ b2 o2, fv2 = some ⟨b2, o2, none⟩ ∧ ∃ x3 : Int, hcell hv b2 o2 = some (.int .i64 x3) ∧ ∃ (Iv2 : List Value → Heap → Prop) (m2 : List Value → Heap → Nat), Iv2 [.int .i64 0] hv ∧ -- loop 2: ['12'] []
    ∀ x4 : Int, ∀ hv2, Iv2 [.int .i64 x4] hv2 →
    cnd (decide (x4 < x3))
      (∃ b3 o3, fv2 = some ⟨b3, o3, none⟩ ∧ ∃ x5 : Int, hcell hv2 b3 o3 = some (.int .i64 x5) ∧ ∃ b4 o4, fv2 = some ⟨b4, o4, none⟩ ∧ ∃ x6 : Int, hcell hv2 b4 o4 = some (.int .i64 x6) ∧ ∃ Jv : List Value → Heap → Prop, -- join 23 [] []
      ( cnd (decide ((IntKind.i64.wrap (x4 + (1 : Int))) < x6))
         (callX Try.prog 117 #[.pointer dP, .int .i64 (IntKind.i64.wrap ((IntKind.i64.wrap (x2 * x5)) + x4)), .int .i64 (IntKind.i64.wrap ((IntKind.i64.wrap ((IntKind.i64.wrap (x2 * x5)) + x4)) + (1 : Int)))] hv2 [] fun v hv3 =>
         v = .tuple #[] ∧
         Jv [] hv3)
         (Jv [] hv2)) ∧
      ∀ hv4, Jv [] hv4 →
      ∃ b5 o5, fv = some ⟨b5, o5, none⟩ ∧ ∃ x7 : Int, hcell hv4 b5 o5 = some (.int .i64 x7) ∧ ∃ Jv2 : List Value → Heap → Prop, -- join 32 [] []
      ( cnd (decide ((IntKind.i64.wrap (x2 + (1 : Int))) < x7))
         (∃ b6 o6, fv2 = some ⟨b6, o6, none⟩ ∧ ∃ x8 : Int, hcell hv4 b6 o6 = some (.int .i64 x8) ∧ callX Try.prog 117 #[.pointer dP, .int .i64 (IntKind.i64.wrap ((IntKind.i64.wrap (x2 * x5)) + x4)), .int .i64 (IntKind.i64.wrap ((IntKind.i64.wrap ((IntKind.i64.wrap (x2 * x5)) + x4)) + x8))] hv4 [] fun v2 hv5 =>
         v2 = .tuple #[] ∧
         Jv2 [] hv5)
         (Jv2 [] hv4)) ∧
      ∀ hv6, Jv2 [] hv6 →
      Iv2 [.int .i64 (IntKind.i64.wrap (x4 + (1 : Int)))] hv6 ∧ m2 [.int .i64 (IntKind.i64.wrap (x4 + (1 : Int)))] hv6 < m2 [.int .i64 x4] hv2)
      (Iv [.int .i64 (IntKind.i64.wrap (x2 + (1 : Int)))] hv2 ∧ m [.int .i64 (IntKind.i64.wrap (x2 + (1 : Int)))] hv2 < m [.int .i64 x2] hv))
    (R (.tuple #[]) hv)

theorem calls126 {h : Heap} {R : Value → Heap → Prop} (dP : Option Addr) (fv : Option Addr) (fv2 : Option Addr) (H : S126 dP fv fv2 h R) : CallsH Try.prog 126 #[.pointer dP, .pointer fv, .pointer fv2] h R := by
  have e : S126 dP fv fv2 h R = FX (envX [] 41) { loops := [(0, ⟨[0, 1, 2, 7], [8], [], []⟩), (2, ⟨[0, 1, 2, 4, 7, 8, 11], [12], [], []⟩)], joins := [(23, ⟨[0, 1, 2, 4, 6, 7, 8, 11, 12], [], [], []⟩), (32, ⟨[0, 1, 2, 4, 7, 8, 11, 12], [], [], []⟩)], blocks := [], draws := [] } Try.f126 (Try.f126.body.getD .skip) [.pointer dP, .pointer fv, .pointer fv2] h R := by kernel_rfl
  exact calls_of_FX (envX_ok _ _) Try.func126 (by kernel_rfl) (by kernel_rfl) (by kernel_rfl) (e ▸ H)

/-- tracery/traceryref6.blank -/
def S127 (n : Int) (x : Int) (h : Heap) (R : Value → Heap → Prop) : Prop :=
  0 ≤ n ∧ n ≤ n ∧ ((8 : Nat) : Int) * n ≤ 281474976710656 ∧ n ≤ 9223372036854775807 ∧ let hv : Heap := h.push (.cells (madeCells (List.toArray [.int .i64 0]) (Int.toNat n * 1)) 3)
  ∃ (Iv : List Value → Heap → Prop) (m : List Value → Heap → Nat), Iv [.int .i64 0] hv ∧ -- loop 0: ['i'] []
  ∀ i : Int, ∀ hv2, Iv [.int .i64 i] hv2 →
  cnd (decide (i < n))
    (∃ b o, (some (⟨h.size, 0, none⟩ : Addr)) = some ⟨b, o, none⟩ ∧ 0 ≤ i ∧ i < ((Int.toNat n) : Nat) ∧ (∃ u, hcell hv2 b (o + (Int.toNat i) * 1) = some u) ∧ hfree hv2 b (o + (Int.toNat i) * 1) = true ∧ let hv3 : Heap := hset hv2 b (o + (Int.toNat i) * 1) (.int .i64 x)
    Iv [.int .i64 (IntKind.i64.wrap (i + (1 : Int)))] hv3 ∧ m [.int .i64 (IntKind.i64.wrap (i + (1 : Int)))] hv3 < m [.int .i64 i] hv2)
    (R (.slice (some (⟨h.size, 0, none⟩ : Addr)) (Int.toNat n) (Int.toNat n)) hv2)

theorem calls127 {h : Heap} {R : Value → Heap → Prop} (n : Int) (x : Int) (H : S127 n x h R) : CallsH Try.prog 127 #[.int .i64 n, .int .i64 x] h R := by
  have e : S127 n x h R = FX (envX [] 19) { loops := [(0, ⟨[0, 1, 5], [6], [], []⟩)], joins := [], blocks := [], draws := [] } Try.f127 (Try.f127.body.getD .skip) [.int .i64 n, .int .i64 x] h R := by kernel_rfl
  exact calls_of_FX (envX_ok _ _) Try.func127 (by kernel_rfl) (by kernel_rfl) (by kernel_rfl) (e ▸ H)

/-- tracery/traceryref5.too -/
def S128 (nsA : Option Addr) (nsL nsC : Nat) (h : Heap) (R : Value → Heap → Prop) : Prop :=
  ∃ (Iv : List Value → Heap → Prop) (m : List Value → Heap → Nat), Iv [.int .i64 0] h ∧ -- loop 0: ['i'] []
  ∀ i : Int, ∀ hv, Iv [.int .i64 i] hv →
  cnd (decide (i < ((nsL : Nat) : Int)))
    (∃ b o, nsA = some ⟨b, o, none⟩ ∧ 0 ≤ i ∧ i < (nsL : Nat) ∧ ∃ x : Int, hcell hv b (o + (Int.toNat i) * 1) = some (.int .i64 x) ∧ cnd (decide (x > (4096 : Int)))
      (R (.bool true) hv)
      (Iv [.int .i64 (IntKind.i64.wrap (i + (1 : Int)))] hv ∧ m [.int .i64 (IntKind.i64.wrap (i + (1 : Int)))] hv < m [.int .i64 i] hv))
    (R (.bool false) hv)

theorem calls128 {h : Heap} {R : Value → Heap → Prop} (nsA : Option Addr) (nsL nsC : Nat) (H : S128 nsA nsL nsC h R) : CallsH Try.prog 128 #[.slice nsA nsL nsC] h R := by
  have e : S128 nsA nsL nsC h R = FX (envX [] 15) { loops := [(0, ⟨[0], [3], [], []⟩)], joins := [], blocks := [], draws := [] } Try.f128 (Try.f128.body.getD .skip) [.slice nsA nsL nsC] h R := by kernel_rfl
  exact calls_of_FX (envX_ok _ _) Try.func128 (by kernel_rfl) (by kernel_rfl) (by kernel_rfl) (e ▸ H)

/-- tracery/traceryref5.made -/
def S129 (n : Int) (edgesA : Option Addr) (edgesL edgesC : Nat) (h : Heap) (R : Value → Heap → Prop) : Prop :=
  let hv : Heap := h.push (.cells #[.int .i64 0, .slice none 0 0] 26)
  let hv2 : Heap := hv.push (.cells #[.int .i64 0, .slice none 0 0] 26)
  let hv3 : Heap := hset (hset hv2 hv.size 0 (.int .i64 n)) hv.size (0 + 1) (.slice edgesA edgesL edgesC)
  callX Try.prog 43 #[.agg #[.int .i64 n, .slice edgesA edgesL edgesC]] hv3 [hv.size, h.size] fun v hv4 =>
  ∃ r : Bool, v = .bool r ∧
  cnd (!r)
    (let hv5 : Heap := hset (hset hv4 h.size 0 (.int .i64 0)) h.size (0 + 1) (.slice none 0 0)
    R (.tuple #[.agg #[.int .i64 0, .slice none 0 0], .int .i64 3]) hv5)
    (let hv6 : Heap := hset (hset hv4 h.size 0 (.int .i64 n)) h.size (0 + 1) (.slice edgesA edgesL edgesC)
    R (.tuple #[.agg #[.int .i64 n, .slice edgesA edgesL edgesC], .int .i64 0]) hv6)

theorem calls129 {h : Heap} {R : Value → Heap → Prop} (n : Int) (edgesA : Option Addr) (edgesL edgesC : Nat) (H : S129 n edgesA edgesL edgesC h R) : CallsH Try.prog 129 #[.int .i64 n, .slice edgesA edgesL edgesC] h R := by
  have e : S129 n edgesA edgesL edgesC h R = FX (envX [4, 6] 15) { loops := [], joins := [], blocks := [], draws := [] } Try.f129 (Try.f129.body.getD .skip) [.int .i64 n, .slice edgesA edgesL edgesC] h R := by kernel_rfl
  exact calls_of_FX (envX_ok _ _) Try.func129 (by kernel_rfl) (by kernel_rfl) (by kernel_rfl) (e ▸ H)

/-- tracery/traceryref5.ring -/
def S130 (lA : Option Addr) (lL lC : Nat) (atv : Int) (n : Int) (h : Heap) (R : Value → Heap → Prop) : Prop :=
  ∃ (Iv : List Value → Heap → Prop) (m : List Value → Heap → Nat), Iv [.slice lA lL lC, .int .i64 0] h ∧ -- loop 0: ['l', 'i'] []
  ∀ (lA2 : Option Addr) (lL2 lC2 : Nat), ∀ i : Int, ∀ hv, Iv [.slice lA2 lL2 lC2, .int .i64 i] hv →
  cnd (decide ((IntKind.i64.wrap (i + (1 : Int))) < n))
    (let hv2 : Heap := hv.push (.cells #[.int .i64 (IntKind.i64.wrap (atv + i)), .int .i64 (IntKind.i64.wrap ((IntKind.i64.wrap (atv + i)) + (1 : Int)))] 35)
    ∃ old, Own hv2 35 2 lA2 lL2 lC2 old ∧ (∀ b ∈ ([hv.size] : List Nat), b ∉ blkOf lA2) ∧ (lL2 + 1) * 16 ≤ 140737488355328 ∧ (lL2 + 1) ≤ maxLen ∧
    ∀ sA sC hv4, Own hv4 35 2 sA (lL2 + 1) sC (old ++ [.int .i64 (IntKind.i64.wrap (atv + i)), .int .i64 (IntKind.i64.wrap ((IntKind.i64.wrap (atv + i)) + (1 : Int)))]) → Fr (blkOf lA2) hv2 hv4 → ((sA = lA2 ∧ sC = lC2) ∨ ∃ g, sA = some ⟨g, 0, none⟩ ∧ hv2.size ≤ g) →
    Iv [.slice sA (lL2 + 1) sC, .int .i64 (IntKind.i64.wrap (i + (1 : Int)))] hv4 ∧ m [.slice sA (lL2 + 1) sC, .int .i64 (IntKind.i64.wrap (i + (1 : Int)))] hv4 < m [.slice lA2 lL2 lC2, .int .i64 i] hv)
    (let hv5 : Heap := hv.push (.cells #[.int .i64 (IntKind.i64.wrap ((IntKind.i64.wrap (atv + n)) - (1 : Int))), .int .i64 atv] 35)
    ∃ old2, Own hv5 35 2 lA2 lL2 lC2 old2 ∧ (∀ b ∈ ([hv.size] : List Nat), b ∉ blkOf lA2) ∧ (lL2 + 1) * 16 ≤ 140737488355328 ∧ (lL2 + 1) ≤ maxLen ∧
    ∀ sA2 sC2 hv7, Own hv7 35 2 sA2 (lL2 + 1) sC2 (old2 ++ [.int .i64 (IntKind.i64.wrap ((IntKind.i64.wrap (atv + n)) - (1 : Int))), .int .i64 atv]) → Fr (blkOf lA2) hv5 hv7 → ((sA2 = lA2 ∧ sC2 = lC2) ∨ ∃ g, sA2 = some ⟨g, 0, none⟩ ∧ hv5.size ≤ g) →
    R (.slice sA2 (lL2 + 1) sC2) hv7)

theorem calls130 {h : Heap} {R : Value → Heap → Prop} (lA : Option Addr) (lL lC : Nat) (atv : Int) (n : Int) (H : S130 lA lL lC atv n h R) : CallsH Try.prog 130 #[.slice lA lL lC, .int .i64 atv, .int .i64 n] h R := by
  have e : S130 lA lL lC atv n h R = FX (envX [23, 32] 34) { loops := [(0, ⟨[1, 2], [0, 7], [], []⟩)], joins := [], blocks := [], draws := [] } Try.f130 (Try.f130.body.getD .skip) [.slice lA lL lC, .int .i64 atv, .int .i64 n] h R := by kernel_rfl
  exact calls_of_FX (envX_ok _ _) Try.func130 (by kernel_rfl) (by kernel_rfl) (by kernel_rfl) (e ▸ H)

/-- tracery/traceryref5.complete -/
def S131 (n : Int) (h : Heap) (R : Value → Heap → Prop) : Prop :=
  let hv : Heap := h.push (.cells #[.int .i64 0, .slice none 0 0] 26)
  cnd (decide (n > (79 : Int)))
    (let hv2 : Heap := hset (hset hv h.size 0 (.int .i64 0)) h.size (0 + 1) (.slice none 0 0)
    R (.tuple #[.agg #[.int .i64 0, .slice none 0 0], .int .i64 3]) hv2)
    (∃ (Iv : List Value → Heap → Prop) (m : List Value → Heap → Nat), Iv [.slice none 0 0, .int .i64 0] hv ∧ -- loop 0: ['l', 'i'] []
    ∀ (lA : Option Addr) (lL lC : Nat), ∀ i : Int, ∀ hv3, Iv [.slice lA lL lC, .int .i64 i] hv3 →
    cnd (decide (i < n))
      (∃ (Iv2 : List Value → Heap → Prop) (m2 : List Value → Heap → Nat), Iv2 [.slice lA lL lC, .int .i64 (IntKind.i64.wrap (i + (1 : Int)))] hv3 ∧ -- loop 2: ['l', 'k'] []
      ∀ (lA2 : Option Addr) (lL2 lC2 : Nat), ∀ k : Int, ∀ hv4, Iv2 [.slice lA2 lL2 lC2, .int .i64 k] hv4 →
      cnd (decide (k < n))
        (let hv5 : Heap := hv4.push (.cells #[.int .i64 i, .int .i64 k] 35)
        ∃ old, Own hv5 35 2 lA2 lL2 lC2 old ∧ (∀ b ∈ ([hv4.size, h.size] : List Nat), b ∉ blkOf lA2) ∧ (lL2 + 1) * 16 ≤ 140737488355328 ∧ (lL2 + 1) ≤ maxLen ∧
        ∀ sA sC hv7, Own hv7 35 2 sA (lL2 + 1) sC (old ++ [.int .i64 i, .int .i64 k]) → Fr (blkOf lA2) hv5 hv7 → ((sA = lA2 ∧ sC = lC2) ∨ ∃ g, sA = some ⟨g, 0, none⟩ ∧ hv5.size ≤ g) →
        Iv2 [.slice sA (lL2 + 1) sC, .int .i64 (IntKind.i64.wrap (k + (1 : Int)))] hv7 ∧ m2 [.slice sA (lL2 + 1) sC, .int .i64 (IntKind.i64.wrap (k + (1 : Int)))] hv7 < m2 [.slice lA2 lL2 lC2, .int .i64 k] hv4)
        (Iv [.slice lA2 lL2 lC2, .int .i64 (IntKind.i64.wrap (i + (1 : Int)))] hv4 ∧ m [.slice lA2 lL2 lC2, .int .i64 (IntKind.i64.wrap (i + (1 : Int)))] hv4 < m [.slice lA lL lC, .int .i64 i] hv3))
      (callX Try.prog 129 #[.int .i64 n, .slice lA lL lC] hv3 [h.size] fun v hv8 =>
      ∃ ra : Int, ∃ (raA : Option Addr) (raL raC : Nat), ∃ rb : Int, v = .tuple #[.agg #[.int .i64 ra, .slice raA raL raC], .int .i64 rb] ∧
      let hv9 : Heap := hset (hset hv8 h.size 0 (.int .i64 ra)) h.size (0 + 1) (.slice raA raL raC)
      R (.tuple #[.agg #[.int .i64 ra, .slice raA raL raC], .int .i64 rb]) hv9))

theorem calls131 {h : Heap} {R : Value → Heap → Prop} (n : Int) (H : S131 n h R) : CallsH Try.prog 131 #[.int .i64 n] h R := by
  have e : S131 n h R = FX (envX [2, 26] 33) { loops := [(0, ⟨[0, 2], [4, 5], [2], []⟩), (2, ⟨[0, 2, 5], [4, 6], [2], []⟩)], joins := [], blocks := [], draws := [] } Try.f131 (Try.f131.body.getD .skip) [.int .i64 n] h R := by kernel_rfl
  exact calls_of_FX (envX_ok _ _) Try.func131 (by kernel_rfl) (by kernel_rfl) (by kernel_rfl) (e ▸ H)

/-- tracery/traceryref5.sides -/
def S132 (a : Int) (b : Int) (h : Heap) (R : Value → Heap → Prop) : Prop :=
  let hv : Heap := h.push (.cells #[.int .i64 0, .slice none 0 0] 26)
  cnd (decide ((IntKind.i64.wrap (a * b)) > (3072 : Int)))
    (let hv2 : Heap := hset (hset hv h.size 0 (.int .i64 0)) h.size (0 + 1) (.slice none 0 0)
    R (.tuple #[.agg #[.int .i64 0, .slice none 0 0], .int .i64 3]) hv2)
    (∃ (Iv : List Value → Heap → Prop) (m : List Value → Heap → Nat), Iv [.slice none 0 0, .int .i64 0] hv ∧ -- loop 0: ['l', 'i'] []
    ∀ (lA : Option Addr) (lL lC : Nat), ∀ i : Int, ∀ hv3, Iv [.slice lA lL lC, .int .i64 i] hv3 →
    cnd (decide (i < a))
      (∃ (Iv2 : List Value → Heap → Prop) (m2 : List Value → Heap → Nat), Iv2 [.slice lA lL lC, .int .i64 0] hv3 ∧ -- loop 2: ['l', 'k'] []
      ∀ (lA2 : Option Addr) (lL2 lC2 : Nat), ∀ k : Int, ∀ hv4, Iv2 [.slice lA2 lL2 lC2, .int .i64 k] hv4 →
      cnd (decide (k < b))
        (let hv5 : Heap := hv4.push (.cells #[.int .i64 i, .int .i64 (IntKind.i64.wrap (a + k))] 35)
        ∃ old, Own hv5 35 2 lA2 lL2 lC2 old ∧ (∀ b ∈ ([hv4.size, h.size] : List Nat), b ∉ blkOf lA2) ∧ (lL2 + 1) * 16 ≤ 140737488355328 ∧ (lL2 + 1) ≤ maxLen ∧
        ∀ sA sC hv7, Own hv7 35 2 sA (lL2 + 1) sC (old ++ [.int .i64 i, .int .i64 (IntKind.i64.wrap (a + k))]) → Fr (blkOf lA2) hv5 hv7 → ((sA = lA2 ∧ sC = lC2) ∨ ∃ g, sA = some ⟨g, 0, none⟩ ∧ hv5.size ≤ g) →
        Iv2 [.slice sA (lL2 + 1) sC, .int .i64 (IntKind.i64.wrap (k + (1 : Int)))] hv7 ∧ m2 [.slice sA (lL2 + 1) sC, .int .i64 (IntKind.i64.wrap (k + (1 : Int)))] hv7 < m2 [.slice lA2 lL2 lC2, .int .i64 k] hv4)
        (Iv [.slice lA2 lL2 lC2, .int .i64 (IntKind.i64.wrap (i + (1 : Int)))] hv4 ∧ m [.slice lA2 lL2 lC2, .int .i64 (IntKind.i64.wrap (i + (1 : Int)))] hv4 < m [.slice lA lL lC, .int .i64 i] hv3))
      (callX Try.prog 129 #[.int .i64 (IntKind.i64.wrap (a + b)), .slice lA lL lC] hv3 [h.size] fun v hv8 =>
      ∃ ra : Int, ∃ (raA : Option Addr) (raL raC : Nat), ∃ rb : Int, v = .tuple #[.agg #[.int .i64 ra, .slice raA raL raC], .int .i64 rb] ∧
      let hv9 : Heap := hset (hset hv8 h.size 0 (.int .i64 ra)) h.size (0 + 1) (.slice raA raL raC)
      R (.tuple #[.agg #[.int .i64 ra, .slice raA raL raC], .int .i64 rb]) hv9))

theorem calls132 {h : Heap} {R : Value → Heap → Prop} (a : Int) (b : Int) (H : S132 a b h R) : CallsH Try.prog 132 #[.int .i64 a, .int .i64 b] h R := by
  have e : S132 a b h R = FX (envX [4, 30] 39) { loops := [(0, ⟨[0, 1, 4], [6, 7], [4], []⟩), (2, ⟨[0, 1, 4, 7], [6, 8], [4], []⟩)], joins := [], blocks := [], draws := [] } Try.f132 (Try.f132.body.getD .skip) [.int .i64 a, .int .i64 b] h R := by kernel_rfl
  exact calls_of_FX (envX_ok _ _) Try.func132 (by kernel_rfl) (by kernel_rfl) (by kernel_rfl) (e ▸ H)

/-- tracery/traceryref5.grid -/
def S133 (w : Int) (hv : Int) (h : Heap) (R : Value → Heap → Prop) : Prop :=
  let hv2 : Heap := h.push (.cells #[.int .i64 0, .slice none 0 0] 26)
  cnd (decide ((IntKind.i64.wrap (w * hv)) > (1024 : Int)))
    (let hv3 : Heap := hset (hset hv2 h.size 0 (.int .i64 0)) h.size (0 + 1) (.slice none 0 0)
    R (.tuple #[.agg #[.int .i64 0, .slice none 0 0], .int .i64 3]) hv3)
    (∃ (Iv : List Value → Heap → Prop) (m : List Value → Heap → Nat), Iv [.slice none 0 0, .int .i64 0] hv2 ∧ -- loop 0: ['l', 'v'] []
    ∀ (lA : Option Addr) (lL lC : Nat), ∀ v : Int, ∀ hv4, Iv [.slice lA lL lC, .int .i64 v] hv4 →
    cnd (decide (v < (IntKind.i64.wrap (w * hv))))
      (w ≠ 0 ∧ ∃ Jv : List Value → Heap → Prop, -- join 25 ['l'] []
      ( cnd (decide ((IntKind.i64.wrap ((Int.tmod v w) + (1 : Int))) < w))
         (let hv5 : Heap := hv4.push (.cells #[.int .i64 v, .int .i64 (IntKind.i64.wrap (v + (1 : Int)))] 35)
         ∃ old, Own hv5 35 2 lA lL lC old ∧ (∀ b ∈ ([hv4.size, h.size] : List Nat), b ∉ blkOf lA) ∧ (lL + 1) * 16 ≤ 140737488355328 ∧ (lL + 1) ≤ maxLen ∧
         ∀ sA sC hv7, Own hv7 35 2 sA (lL + 1) sC (old ++ [.int .i64 v, .int .i64 (IntKind.i64.wrap (v + (1 : Int)))]) → Fr (blkOf lA) hv5 hv7 → ((sA = lA ∧ sC = lC) ∨ ∃ g, sA = some ⟨g, 0, none⟩ ∧ hv5.size ≤ g) →
         Jv [.slice sA (lL + 1) sC] hv7)
         (Jv [.slice lA lL lC] hv4)) ∧
      ∀ (lA2 : Option Addr) (lL2 lC2 : Nat), ∀ hv8, Jv [.slice lA2 lL2 lC2] hv8 →
      w ≠ 0 ∧ ∃ Jv2 : List Value → Heap → Prop, -- join 38 ['l'] []
      ( cnd (decide ((IntKind.i64.wrap ((IntKind.i64.wrap (Int.tdiv v w)) + (1 : Int))) < hv))
         (let hv9 : Heap := hv8.push (.cells #[.int .i64 v, .int .i64 (IntKind.i64.wrap (v + w))] 35)
         ∃ old2, Own hv9 35 2 lA2 lL2 lC2 old2 ∧ (∀ b ∈ ([hv8.size, h.size] : List Nat), b ∉ blkOf lA2) ∧ (lL2 + 1) * 16 ≤ 140737488355328 ∧ (lL2 + 1) ≤ maxLen ∧
         ∀ sA2 sC2 hv11, Own hv11 35 2 sA2 (lL2 + 1) sC2 (old2 ++ [.int .i64 v, .int .i64 (IntKind.i64.wrap (v + w))]) → Fr (blkOf lA2) hv9 hv11 → ((sA2 = lA2 ∧ sC2 = lC2) ∨ ∃ g, sA2 = some ⟨g, 0, none⟩ ∧ hv9.size ≤ g) →
         Jv2 [.slice sA2 (lL2 + 1) sC2] hv11)
         (Jv2 [.slice lA2 lL2 lC2] hv8)) ∧
      ∀ (lA3 : Option Addr) (lL3 lC3 : Nat), ∀ hv12, Jv2 [.slice lA3 lL3 lC3] hv12 →
      Iv [.slice lA3 lL3 lC3, .int .i64 (IntKind.i64.wrap (v + (1 : Int)))] hv12 ∧ m [.slice lA3 lL3 lC3, .int .i64 (IntKind.i64.wrap (v + (1 : Int)))] hv12 < m [.slice lA lL lC, .int .i64 v] hv4)
      (callX Try.prog 129 #[.int .i64 (IntKind.i64.wrap (w * hv)), .slice lA lL lC] hv4 [h.size] fun v2 hv13 =>
      ∃ ra : Int, ∃ (raA : Option Addr) (raL raC : Nat), ∃ rb : Int, v2 = .tuple #[.agg #[.int .i64 ra, .slice raA raL raC], .int .i64 rb] ∧
      let hv14 : Heap := hset (hset hv13 h.size 0 (.int .i64 ra)) h.size (0 + 1) (.slice raA raL raC)
      R (.tuple #[.agg #[.int .i64 ra, .slice raA raL raC], .int .i64 rb]) hv14))

theorem calls133 {h : Heap} {R : Value → Heap → Prop} (w : Int) (hv : Int) (H : S133 w hv h R) : CallsH Try.prog 133 #[.int .i64 w, .int .i64 hv] h R := by
  have e : S133 w hv h R = FX (envX [4, 31, 45] 54) { loops := [(0, ⟨[0, 1, 4], [6, 7], [4], []⟩)], joins := [(25, ⟨[0, 1, 4, 7], [6], [4], []⟩), (38, ⟨[0, 1, 4, 7], [6], [4], []⟩)], blocks := [], draws := [] } Try.f133 (Try.f133.body.getD .skip) [.int .i64 w, .int .i64 hv] h R := by kernel_rfl
  exact calls_of_FX (envX_ok _ _) Try.func133 (by kernel_rfl) (by kernel_rfl) (by kernel_rfl) (e ▸ H)

/-- tracery/traceryref5.random -/
def S134 (n : Int) (m : Int) (seed : Int) (h : Heap) (R : Value → Heap → Prop) : Prop :=
  let hv : Heap := h.push (.cells #[.int .i64 0, .slice none 0 0] 26)
  ∃ (Iv : List Value → Heap → Prop) (m2 : List Value → Heap → Nat), Iv [.slice none 0 0, .int .u64 seed, .int .i64 0] hv ∧ -- loop 0: ['l', 's', 'i'] []
  ∀ (lA : Option Addr) (lL lC : Nat), ∀ s : Int, ∀ i : Int, ∀ hv2, Iv [.slice lA lL lC, .int .u64 s, .int .i64 i] hv2 →
  cnd (decide (i < m))
    (callX Try.prog 199 #[.int .u64 s, .int .i64 n] hv2 [h.size] fun v hv3 =>
    ∃ ra : Int, ∃ rb : Int, v = .tuple #[.int .u64 ra, .int .i64 rb] ∧
    callX Try.prog 199 #[.int .u64 ra, .int .i64 n] hv3 [h.size] fun v2 hv4 =>
    ∃ ra2 : Int, ∃ rb2 : Int, v2 = .tuple #[.int .u64 ra2, .int .i64 rb2] ∧
    let hv5 : Heap := hv4.push (.cells #[.int .i64 rb, .int .i64 rb2] 35)
    ∃ old, Own hv5 35 2 lA lL lC old ∧ (∀ b ∈ ([hv4.size, h.size] : List Nat), b ∉ blkOf lA) ∧ (lL + 1) * 16 ≤ 140737488355328 ∧ (lL + 1) ≤ maxLen ∧
    ∀ sA sC hv7, Own hv7 35 2 sA (lL + 1) sC (old ++ [.int .i64 rb, .int .i64 rb2]) → Fr (blkOf lA) hv5 hv7 → ((sA = lA ∧ sC = lC) ∨ ∃ g, sA = some ⟨g, 0, none⟩ ∧ hv5.size ≤ g) →
    Iv [.slice sA (lL + 1) sC, .int .u64 ra2, .int .i64 (IntKind.i64.wrap (i + (1 : Int)))] hv7 ∧ m2 [.slice sA (lL + 1) sC, .int .u64 ra2, .int .i64 (IntKind.i64.wrap (i + (1 : Int)))] hv7 < m2 [.slice lA lL lC, .int .u64 s, .int .i64 i] hv2)
    (callX Try.prog 129 #[.int .i64 n, .slice lA lL lC] hv2 [h.size] fun v3 hv8 =>
    ∃ ra3 : Int, ∃ (raA : Option Addr) (raL raC : Nat), ∃ rb3 : Int, v3 = .tuple #[.agg #[.int .i64 ra3, .slice raA raL raC], .int .i64 rb3] ∧
    let hv9 : Heap := hset (hset hv8 h.size 0 (.int .i64 ra3)) h.size (0 + 1) (.slice raA raL raC)
    R (.tuple #[.agg #[.int .i64 ra3, .slice raA raL raC], .int .i64 rb3]) hv9)

theorem calls134 {h : Heap} {R : Value → Heap → Prop} (n : Int) (m : Int) (seed : Int) (H : S134 n m seed h R) : CallsH Try.prog 134 #[.int .i64 n, .int .i64 m, .int .u64 seed] h R := by
  have e : S134 n m seed h R = FX (envX [6, 37] 45) { loops := [(0, ⟨[0, 1, 6], [8, 9, 10], [6], []⟩)], joins := [], blocks := [], draws := [] } Try.f134 (Try.f134.body.getD .skip) [.int .i64 n, .int .i64 m, .int .u64 seed] h R := by kernel_rfl
  exact calls_of_FX (envX_ok _ _) Try.func134 (by kernel_rfl) (by kernel_rfl) (by kernel_rfl) (e ▸ H)

/-- tracery/traceryref5.stack -/
def S135 (n : Int) (seed : Int) (h : Heap) (R : Value → Heap → Prop) : Prop :=
  let hv : Heap := h.push (.cells #[.int .i64 0, .slice none 0 0] 26)
  cnd (decide (n > (1024 : Int)))
    (let hv2 : Heap := hset (hset hv h.size 0 (.int .i64 0)) h.size (0 + 1) (.slice none 0 0)
    R (.tuple #[.agg #[.int .i64 0, .slice none 0 0], .int .i64 3]) hv2)
    (callX Try.prog 130 #[.slice none 0 0, .int .i64 0, .int .i64 3] hv [h.size] fun v hv3 =>
    ∃ (rA : Option Addr) (rL rC : Nat), v = .slice rA rL rC ∧
    let hv4 : Heap := hv3.push (.cells #[.int .i64 0, .int .i64 1, .int .i64 2, .int .i64 0, .int .i64 2, .int .i64 1] 167)
    ∃ (Iv : List Value → Heap → Prop) (m : List Value → Heap → Nat), Iv [.slice rA rL rC, .slice (some (⟨hv3.size, 0, none⟩ : Addr)) 2 2, .int .u64 seed, .int .i64 3] hv4 ∧ -- loop 0: ['l', 'ts', 's', 'v'] []
    ∀ (lA : Option Addr) (lL lC : Nat), ∀ (tsA : Option Addr) (tsL tsC : Nat), ∀ s : Int, ∀ v2 : Int, ∀ hv5, Iv [.slice lA lL lC, .slice tsA tsL tsC, .int .u64 s, .int .i64 v2] hv5 →
    cnd (decide (v2 < n))
      (callX Try.prog 199 #[.int .u64 s, .int .i64 ((tsL : Nat) : Int)] hv5 [h.size] fun v3 hv6 =>
      ∃ ra : Int, ∃ rb : Int, v3 = .tuple #[.int .u64 ra, .int .i64 rb] ∧
      ∃ b o, tsA = some ⟨b, o, none⟩ ∧ 0 ≤ rb ∧ rb < (tsL : Nat) ∧ ∃ x : Int, hcell hv6 b (o + (Int.toNat rb) * 3) = some (.int .i64 x) ∧ ∃ x2 : Int, hcell hv6 b ((o + (Int.toNat rb) * 3) + 1) = some (.int .i64 x2) ∧ ∃ x3 : Int, hcell hv6 b (((o + (Int.toNat rb) * 3) + 1) + 1) = some (.int .i64 x3) ∧ let hv7 : Heap := hv6.push (.cells #[.int .i64 0, .int .i64 0, .int .i64 0] 167)
      let hv8 : Heap := hset (hset (hset hv7 hv6.size 0 (.int .i64 x)) hv6.size (0 + 1) (.int .i64 x2)) hv6.size ((0 + 1) + 1) (.int .i64 x3)
      let hv9 : Heap := hv8.push (.cells #[.int .i64 v2, .int .i64 x, .int .i64 v2, .int .i64 x2, .int .i64 v2, .int .i64 x3] 35)
      ∃ old, Own hv9 35 2 lA lL lC old ∧ (∀ b ∈ ([hv8.size, hv6.size, h.size] : List Nat), b ∉ blkOf lA) ∧ (lL + 3) * 16 ≤ 140737488355328 ∧ (lL + 3) ≤ maxLen ∧
      ∀ sA sC hv11, Own hv11 35 2 sA (lL + 3) sC (old ++ [.int .i64 v2, .int .i64 x, .int .i64 v2, .int .i64 x2, .int .i64 v2, .int .i64 x3]) → Fr (blkOf lA) hv9 hv11 → ((sA = lA ∧ sC = lC) ∨ ∃ g, sA = some ⟨g, 0, none⟩ ∧ hv9.size ≤ g) →
      ∃ b2 o2, tsA = some ⟨b2, o2, none⟩ ∧ 0 ≤ rb ∧ rb < (tsL : Nat) ∧ b2 ≠ hv8.size ∧ b2 ≠ hv6.size ∧ b2 ≠ h.size ∧ (∃ u, hcell hv11 b2 (o2 + (Int.toNat rb) * 3) = some u) ∧ hfree hv11 b2 (o2 + (Int.toNat rb) * 3) = true ∧ (∃ u, hcell hv11 b2 ((o2 + (Int.toNat rb) * 3) + 1) = some u) ∧ hfree hv11 b2 ((o2 + (Int.toNat rb) * 3) + 1) = true ∧ (∃ u, hcell hv11 b2 (((o2 + (Int.toNat rb) * 3) + 1) + 1) = some u) ∧ hfree hv11 b2 (((o2 + (Int.toNat rb) * 3) + 1) + 1) = true ∧ let hv12 : Heap := hset (hset (hset hv11 b2 (o2 + (Int.toNat rb) * 3) (.int .i64 x)) b2 ((o2 + (Int.toNat rb) * 3) + 1) (.int .i64 x2)) b2 (((o2 + (Int.toNat rb) * 3) + 1) + 1) (.int .i64 v2)
      let hv13 : Heap := hv12.push (.cells #[.int .i64 x2, .int .i64 x3, .int .i64 v2, .int .i64 x3, .int .i64 x, .int .i64 v2] 167)
      ∃ old2, Own hv13 167 3 tsA tsL tsC old2 ∧ (∀ b ∈ ([hv12.size, hv8.size, hv6.size, h.size] : List Nat), b ∉ blkOf tsA) ∧ (tsL + 2) * 24 ≤ 140737488355328 ∧ (tsL + 2) ≤ maxLen ∧
      ∀ sA2 sC2 hv15, Own hv15 167 3 sA2 (tsL + 2) sC2 (old2 ++ [.int .i64 x2, .int .i64 x3, .int .i64 v2, .int .i64 x3, .int .i64 x, .int .i64 v2]) → Fr (blkOf tsA) hv13 hv15 → ((sA2 = tsA ∧ sC2 = tsC) ∨ ∃ g, sA2 = some ⟨g, 0, none⟩ ∧ hv13.size ≤ g) →
      Iv [.slice sA (lL + 3) sC, .slice sA2 (tsL + 2) sC2, .int .u64 ra, .int .i64 (IntKind.i64.wrap (v2 + (1 : Int)))] hv15 ∧ m [.slice sA (lL + 3) sC, .slice sA2 (tsL + 2) sC2, .int .u64 ra, .int .i64 (IntKind.i64.wrap (v2 + (1 : Int)))] hv15 < m [.slice lA lL lC, .slice tsA tsL tsC, .int .u64 s, .int .i64 v2] hv5)
      (callX Try.prog 129 #[.int .i64 n, .slice lA lL lC] hv5 [h.size] fun v4 hv16 =>
      ∃ ra2 : Int, ∃ (raA : Option Addr) (raL raC : Nat), ∃ rb2 : Int, v4 = .tuple #[.agg #[.int .i64 ra2, .slice raA raL raC], .int .i64 rb2] ∧
      let hv17 : Heap := hset (hset hv16 h.size 0 (.int .i64 ra2)) h.size (0 + 1) (.slice raA raL raC)
      R (.tuple #[.agg #[.int .i64 ra2, .slice raA raL raC], .int .i64 rb2]) hv17))

theorem calls135 {h : Heap} {R : Value → Heap → Prop} (n : Int) (seed : Int) (H : S135 n seed h R) : CallsH Try.prog 135 #[.int .i64 n, .int .u64 seed] h R := by
  have e : S135 n seed h R = FX (envX [4, 12, 51, 75] 82) { loops := [(0, ⟨[0, 4], [6, 7, 8, 9], [4], []⟩)], joins := [], blocks := [], draws := [] } Try.f135 (Try.f135.body.getD .skip) [.int .i64 n, .int .u64 seed] h R := by kernel_rfl
  exact calls_of_FX (envX_ok _ _) Try.func135 (by kernel_rfl) (by kernel_rfl) (by kernel_rfl) (e ▸ H)

/-- tracery/maker.Path -/
def S136 (n : Int) (h : Heap) (R : Value → Heap → Prop) : Prop :=
  let hv : Heap := h.push (.cells #[.int .i64 n] 3)
  let hv2 : Heap := hv.push (.cells #[.int .i64 0, .slice none 0 0] 26)
  ∃ x : Int, hcell hv2 h.size 0 = some (.int .i64 x) ∧ ∃ x2 : Int, hcell hv2 h.size 0 = some (.int .i64 x2) ∧ ∃ x3 : Int, hcell hv2 h.size 0 = some (.int .i64 x3) ∧ ∃ x4 : Int, hcell hv2 h.size 0 = some (.int .i64 x4) ∧ let hv3 : Heap := hv2.push (.cells #[.int .i64 x] 3)
  Fr [] hv2 hv3 ∧
  callX Try.prog 113 #[.int .i64 1, .slice (some (⟨hv2.size, 0, none⟩ : Addr)) 1 1, .int .i64 x2, .int .i64 (IntKind.i64.wrap (x3 - (1 : Int)))] hv3 [hv.size] fun v hv4 =>
  ∃ r : Int, v = .int .i64 r ∧
  Fr [] hv2 hv4 ∧
  callX Try.prog 112 #[.int .i64 r, .int .i64 x4, .func (.func 200) #[] #[.pointer (some (⟨h.size, 0, none⟩ : Addr))]] hv4 [hv.size] fun v2 hv5 =>
  ∃ ra : Int, ∃ (raA : Option Addr) (raL raC : Nat), ∃ rb : Int, v2 = .tuple #[.agg #[.int .i64 ra, .slice raA raL raC], .int .i64 rb] ∧
  Fr [] hv2 hv5 ∧
  let hv6 : Heap := hset (hset hv5 hv.size 0 (.int .i64 ra)) hv.size (0 + 1) (.slice raA raL raC)
  R (.tuple #[.agg #[.int .i64 ra, .slice raA raL raC], .int .i64 rb]) hv6

theorem calls136 {h : Heap} {R : Value → Heap → Prop} (n : Int) (H : S136 n h R) : CallsH Try.prog 136 #[.int .i64 n] h R := by
  have e : S136 n h R = FX (envX [2] 15) { loops := [], joins := [], blocks := [], draws := [(1, ⟨11, false⟩)] } Try.f136 (Try.f136.body.getD .skip) [.int .i64 n] h R := by kernel_rfl
  exact calls_of_FX (envX_ok _ _) Try.func136 (by kernel_rfl) (by kernel_rfl) (by kernel_rfl) (e ▸ H)

/-- tracery/maker.Bond -/
def S137 (k : Int) (h : Heap) (R : Value → Heap → Prop) : Prop :=
  let hv : Heap := h.push (.cells #[.int .i64 k] 3)
  let hv2 : Heap := hv.push (.cells #[.int .i64 0, .slice none 0 0] 26)
  ∃ x : Int, hcell hv2 h.size 0 = some (.int .i64 x) ∧ let hv3 : Heap := hv2.push (.cells #[.int .i64 x] 3)
  ∃ x2 : Int, hcell hv3 h.size 0 = some (.int .i64 x2) ∧ callX Try.prog 113 #[.int .i64 1, .slice (some (⟨hv2.size, 0, none⟩ : Addr)) 1 1, .int .i64 2, .int .i64 x2] hv3 [hv.size] fun v hv4 =>
  ∃ r : Int, v = .int .i64 r ∧
  callX Try.prog 112 #[.int .i64 r, .int .i64 2, .func (.func 201) #[] #[.pointer (some (⟨h.size, 0, none⟩ : Addr))]] hv4 [hv.size] fun v2 hv5 =>
  ∃ ra : Int, ∃ (raA : Option Addr) (raL raC : Nat), ∃ rb : Int, v2 = .tuple #[.agg #[.int .i64 ra, .slice raA raL raC], .int .i64 rb] ∧
  let hv6 : Heap := hset (hset hv5 hv.size 0 (.int .i64 ra)) hv.size (0 + 1) (.slice raA raL raC)
  R (.tuple #[.agg #[.int .i64 ra, .slice raA raL raC], .int .i64 rb]) hv6

theorem calls137 {h : Heap} {R : Value → Heap → Prop} (k : Int) (H : S137 k h R) : CallsH Try.prog 137 #[.int .i64 k] h R := by
  have e : S137 k h R = FX (envX [2] 12) { loops := [], joins := [], blocks := [], draws := [] } Try.f137 (Try.f137.body.getD .skip) [.int .i64 k] h R := by kernel_rfl
  exact calls_of_FX (envX_ok _ _) Try.func137 (by kernel_rfl) (by kernel_rfl) (by kernel_rfl) (e ▸ H)

/-- tracery/maker.Random -/
def S138 (n : Int) (m : Int) (seed : Int) (h : Heap) (R : Value → Heap → Prop) : Prop :=
  let hv : Heap := h.push (.cells #[.int .i64 n] 3)
  let hv2 : Heap := hv.push (.cells #[.int .i64 m] 3)
  let hv3 : Heap := hv2.push (.cells #[.int .u64 seed] 22)
  let hv4 : Heap := hv3.push (.cells #[.int .i64 0, .slice none 0 0] 26)
  ∃ x : Int, hcell hv4 h.size 0 = some (.int .i64 x) ∧ let hv5 : Heap := hv4.push (.cells #[.int .i64 x] 3)
  ∃ x2 : Int, hcell hv5 h.size 0 = some (.int .i64 x2) ∧ ∃ x3 : Int, hcell hv5 hv.size 0 = some (.int .i64 x3) ∧ callX Try.prog 113 #[.int .i64 1, .slice (some (⟨hv4.size, 0, none⟩ : Addr)) 1 1, .int .i64 x2, .int .i64 (if (0 : Int) > x3 then (0 : Int) else x3)] hv5 [hv3.size] fun v hv6 =>
  ∃ r : Int, v = .int .i64 r ∧
  ∃ x4 : Int, hcell hv6 hv.size 0 = some (.int .i64 x4) ∧ ∃ Jv : List Value → Heap → Prop, -- join 16 ['e'] []
  ( cnd (decide (x4 < (0 : Int)))
     (Jv [.int .i64 1] hv6)
     (Jv [.int .i64 r] hv6)) ∧
  ∀ ev : Int, ∀ hv7, Jv [.int .i64 ev] hv7 →
  ∃ x5 : Int, hcell hv7 h.size 0 = some (.int .i64 x5) ∧ callX Try.prog 112 #[.int .i64 ev, .int .i64 x5, .func (.func 202) #[] #[.pointer (some (⟨hv2.size, 0, none⟩ : Addr)), .pointer (some (⟨hv.size, 0, none⟩ : Addr)), .pointer (some (⟨h.size, 0, none⟩ : Addr))]] hv7 [hv3.size] fun v2 hv8 =>
  ∃ ra : Int, ∃ (raA : Option Addr) (raL raC : Nat), ∃ rb : Int, v2 = .tuple #[.agg #[.int .i64 ra, .slice raA raL raC], .int .i64 rb] ∧
  let hv9 : Heap := hset (hset hv8 hv3.size 0 (.int .i64 ra)) hv3.size (0 + 1) (.slice raA raL raC)
  R (.tuple #[.agg #[.int .i64 ra, .slice raA raL raC], .int .i64 rb]) hv9

theorem calls138 {h : Heap} {R : Value → Heap → Prop} (n : Int) (m : Int) (seed : Int) (H : S138 n m seed h R) : CallsH Try.prog 138 #[.int .i64 n, .int .i64 m, .int .u64 seed] h R := by
  have e : S138 n m seed h R = FX (envX [6] 23) { loops := [], joins := [(16, ⟨[3, 4, 5, 6], [8], [6], []⟩)], blocks := [], draws := [] } Try.f138 (Try.f138.body.getD .skip) [.int .i64 n, .int .i64 m, .int .u64 seed] h R := by kernel_rfl
  exact calls_of_FX (envX_ok _ _) Try.func138 (by kernel_rfl) (by kernel_rfl) (by kernel_rfl) (e ▸ H)

/-- tracery/tracerylaw3.Room -/
def S139 (n : Int) (all : Int) (h : Heap) (R : Value → Heap → Prop) : Prop :=
  R (.int .i64 (if (IntKind.i64.wrap (n + (2000 : Int))) < all then (IntKind.i64.wrap (n + (2000 : Int))) else all)) h

theorem calls139 {h : Heap} {R : Value → Heap → Prop} (n : Int) (all : Int) (H : S139 n all h R) : CallsH Try.prog 139 #[.int .i64 n, .int .i64 all] h R := by
  have e : S139 n all h R = FX (envX [] 9) { loops := [], joins := [], blocks := [], draws := [] } Try.f139 (Try.f139.body.getD .skip) [.int .i64 n, .int .i64 all] h R := by kernel_rfl
  exact calls_of_FX (envX_ok _ _) Try.func139 (by kernel_rfl) (by kernel_rfl) (by kernel_rfl) (e ▸ H)

/-- tracery/traceryref3.pair -/
def S198 (ev : Int) (ev2 : Int) (h : Heap) (R : Value → Heap → Prop) : Prop :=
  let hv : Heap := h.push (.cells #[.int .i64 ev, .int .i64 ev2] 35)
  let hv2 : Heap := hv.push (.cells #[.int .i64 0, .int .i64 0] 35)
  cnd (decide (ev > ev2))
    (let hv3 : Heap := hset (hset hv2 hv.size 0 (.int .i64 ev2)) hv.size (0 + 1) (.int .i64 ev)
    R (.agg #[.int .i64 ev2, .int .i64 ev]) hv3)
    (let hv4 : Heap := hset (hset hv2 hv.size 0 (.int .i64 ev)) hv.size (0 + 1) (.int .i64 ev2)
    R (.agg #[.int .i64 ev, .int .i64 ev2]) hv4)

theorem calls198 {h : Heap} {R : Value → Heap → Prop} (ev : Int) (ev2 : Int) (H : S198 ev ev2 h R) : CallsH Try.prog 198 #[.agg #[.int .i64 ev, .int .i64 ev2]] h R := by
  have e : S198 ev ev2 h R = FX (envX [1, 2] 14) { loops := [], joins := [], blocks := [], draws := [] } Try.f198 (Try.f198.body.getD .skip) [.agg #[.int .i64 ev, .int .i64 ev2]] h R := by kernel_rfl
  exact calls_of_FX (envX_ok _ _) Try.func198 (by kernel_rfl) (by kernel_rfl) (by kernel_rfl) (e ▸ H)

/-- tracery/traceryref5.draw -/
def S199 (s : Int) (n : Int) (h : Heap) (R : Value → Heap → Prop) : Prop :=
  0 ≤ (33 : Int) ∧ (IntKind.u64.wrap n) ≠ 0 ∧ R (.tuple #[.int .u64 (IntKind.u64.wrap ((IntKind.u64.wrap (s * (6364136223846793005 : Int))) + (1442695040888963407 : Int))), .int .i64 (IntKind.i64.wrap (Int.tmod (Int.fdiv (IntKind.u64.wrap ((IntKind.u64.wrap (s * (6364136223846793005 : Int))) + (1442695040888963407 : Int))) (2 ^ (min (Int.toNat (33 : Int)) 64))) (IntKind.u64.wrap n)))]) h

theorem calls199 {h : Heap} {R : Value → Heap → Prop} (s : Int) (n : Int) (H : S199 s n h R) : CallsH Try.prog 199 #[.int .u64 s, .int .i64 n] h R := by
  have e : S199 s n h R = FX (envX [] 16) { loops := [], joins := [], blocks := [], draws := [(2, ⟨9, false⟩)] } Try.f199 (Try.f199.body.getD .skip) [.int .u64 s, .int .i64 n] h R := by kernel_rfl
  exact calls_of_FX (envX_ok _ _) Try.func199 (by kernel_rfl) (by kernel_rfl) (by kernel_rfl) (e ▸ H)

/-- tracery/maker.Path$1 -/
def S200 (dP : Option Addr) (fv : Option Addr) (h : Heap) (R : Value → Heap → Prop) : Prop :=
  ∃ b o, fv = some ⟨b, o, none⟩ ∧ ∃ x : Int, hcell h b o = some (.int .i64 x) ∧ ∃ (Iv : List Value → Heap → Prop) (m : List Value → Heap → Nat), Iv [.int .i64 0] h ∧ -- loop 0: ['6'] []
  ∀ x2 : Int, ∀ hv, Iv [.int .i64 x2] hv →
  cnd (decide (x2 < (IntKind.i64.wrap (x - (1 : Int)))))
    (callX Try.prog 117 #[.pointer dP, .int .i64 x2, .int .i64 (IntKind.i64.wrap (x2 + (1 : Int)))] hv [] fun v hv2 =>
    v = .tuple #[] ∧
    Iv [.int .i64 (IntKind.i64.wrap (x2 + (1 : Int)))] hv2 ∧ m [.int .i64 (IntKind.i64.wrap (x2 + (1 : Int)))] hv2 < m [.int .i64 x2] hv)
    (R (.tuple #[]) hv)

theorem calls200 {h : Heap} {R : Value → Heap → Prop} (dP : Option Addr) (fv : Option Addr) (H : S200 dP fv h R) : CallsH Try.prog 200 #[.pointer dP, .pointer fv] h R := by
  have e : S200 dP fv h R = FX (envX [] 15) { loops := [(0, ⟨[0, 5], [6], [], []⟩)], joins := [], blocks := [], draws := [] } Try.f200 (Try.f200.body.getD .skip) [.pointer dP, .pointer fv] h R := by kernel_rfl
  exact calls_of_FX (envX_ok _ _) Try.func200 (by kernel_rfl) (by kernel_rfl) (by kernel_rfl) (e ▸ H)

/-- tracery/maker.Bond$1 -/
def S201 (dP : Option Addr) (fv : Option Addr) (h : Heap) (R : Value → Heap → Prop) : Prop :=
  ∃ b o, fv = some ⟨b, o, none⟩ ∧ ∃ x : Int, hcell h b o = some (.int .i64 x) ∧ ∃ (Iv : List Value → Heap → Prop) (m : List Value → Heap → Nat), Iv [.int .i64 0] h ∧ -- loop 0: ['4'] []
  ∀ x2 : Int, ∀ hv, Iv [.int .i64 x2] hv →
  cnd (decide (x2 < x))
    (callX Try.prog 117 #[.pointer dP, .int .i64 0, .int .i64 1] hv [] fun v hv2 =>
    v = .tuple #[] ∧
    Iv [.int .i64 (IntKind.i64.wrap (x2 + (1 : Int)))] hv2 ∧ m [.int .i64 (IntKind.i64.wrap (x2 + (1 : Int)))] hv2 < m [.int .i64 x2] hv)
    (R (.tuple #[]) hv)

theorem calls201 {h : Heap} {R : Value → Heap → Prop} (dP : Option Addr) (fv : Option Addr) (H : S201 dP fv h R) : CallsH Try.prog 201 #[.pointer dP, .pointer fv] h R := by
  have e : S201 dP fv h R = FX (envX [] 9) { loops := [(0, ⟨[0, 3], [4], [], []⟩)], joins := [], blocks := [], draws := [] } Try.f201 (Try.f201.body.getD .skip) [.pointer dP, .pointer fv] h R := by kernel_rfl
  exact calls_of_FX (envX_ok _ _) Try.func201 (by kernel_rfl) (by kernel_rfl) (by kernel_rfl) (e ▸ H)

/-- tracery/maker.Random$1 -/
def S202 (dP : Option Addr) (fv : Option Addr) (fv2 : Option Addr) (fv3 : Option Addr) (h : Heap) (R : Value → Heap → Prop) : Prop :=
  ∃ b o, fv = some ⟨b, o, none⟩ ∧ ∃ x : Int, hcell h b o = some (.int .u64 x) ∧ let hv : Heap := h.push (.cells #[.int .u64 x] 166)
  ∃ b2 o2, fv2 = some ⟨b2, o2, none⟩ ∧ ∃ x2 : Int, hcell hv b2 o2 = some (.int .i64 x2) ∧ ∃ (Iv : List Value → Heap → Prop) (m : List Value → Heap → Nat), Iv [.int .i64 0] hv ∧ -- loop 0: ['11'] []
  ∀ x3 : Int, ∀ hv2, Iv [.int .i64 x3] hv2 →
  cnd (decide (x3 < x2))
    (∃ b3 o3, fv3 = some ⟨b3, o3, none⟩ ∧ ∃ x4 : Int, hcell hv2 b3 o3 = some (.int .i64 x4) ∧ callX Try.prog 116 #[.pointer (some (⟨h.size, 0, none⟩ : Addr)), .int .i64 x4] hv2 [] fun v hv3 =>
    ∃ r : Int, v = .int .i64 r ∧
    ∃ b4 o4, fv3 = some ⟨b4, o4, none⟩ ∧ ∃ x5 : Int, hcell hv3 b4 o4 = some (.int .i64 x5) ∧ callX Try.prog 116 #[.pointer (some (⟨h.size, 0, none⟩ : Addr)), .int .i64 x5] hv3 [] fun v2 hv4 =>
    ∃ r2 : Int, v2 = .int .i64 r2 ∧
    callX Try.prog 117 #[.pointer dP, .int .i64 r, .int .i64 r2] hv4 [] fun v3 hv5 =>
    v3 = .tuple #[] ∧
    Iv [.int .i64 (IntKind.i64.wrap (x3 + (1 : Int)))] hv5 ∧ m [.int .i64 (IntKind.i64.wrap (x3 + (1 : Int)))] hv5 < m [.int .i64 x3] hv2)
    (R (.tuple #[]) hv2)

theorem calls202 {h : Heap} {R : Value → Heap → Prop} (dP : Option Addr) (fv : Option Addr) (fv2 : Option Addr) (fv3 : Option Addr) (H : S202 dP fv fv2 fv3 h R) : CallsH Try.prog 202 #[.pointer dP, .pointer fv, .pointer fv2, .pointer fv3] h R := by
  have e : S202 dP fv fv2 fv3 h R = FX (envX [] 23) { loops := [(0, ⟨[0, 3, 5, 10], [11], [], []⟩)], joins := [], blocks := [], draws := [] } Try.f202 (Try.f202.body.getD .skip) [.pointer dP, .pointer fv, .pointer fv2, .pointer fv3] h R := by kernel_rfl
  exact calls_of_FX (envX_ok _ _) Try.func202 (by kernel_rfl) (by kernel_rfl) (by kernel_rfl) (e ▸ H)

end Go.Proofs.Ytmcloipjlihhlaa
