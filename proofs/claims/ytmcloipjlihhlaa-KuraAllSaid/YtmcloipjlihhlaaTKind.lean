/- Functions: what is left to be shown of each, over memory and without: printed by program, tied to the loaded functions by the kernel. Conditions: none. -/
import Derived.Test.YtmcloipjlihhlaaSEnv
import Derived.Test.YtmcloipjlihhlaaYMore
import Derived.Test.YtmcloipjlihhlaaTMaker
namespace Go.Proofs.Ytmcloipjlihhlaa.N
open Go.Proofs.Ytmcloipjlihhlaa
open Go.X
set_option maxRecDepth 100000
set_option linter.unusedVariables false
set_option linter.unusedSimpArgs false
set_option maxHeartbeats 2000000

/-- tracery/traceryref5.Kind -/
def S38 (name : ByteArray) (a : Int) (b : Int) (seed : Int) (h : Heap) (R : Value → Heap → Prop) : Prop :=
  let hv : Heap := h.push (.cells #[.int .i64 0, .slice none 0 0] 26)
  cnd (name.toList == (⟨#[116, 119, 111]⟩ : ByteArray).toList)
    (∃ Jv : List Value → Heap → Prop, -- block 0 ['least']
    ( let K := fun (x : Bool) (hv2 : Heap) =>
       (cnd x
         (Jv [.int .i64 1, .int .i64 0, .slice none 0 0] hv2)
         (let K2 := fun (x2 : Bool) (hv3 : Heap) =>
           (cnd x2
             (Jv [.int .i64 3, .int .i64 0, .slice none 0 0] hv3)
             (let hv4 : Heap := hset (hset hv3 h.size 0 (.int .i64 0)) h.size (0 + 1) (.slice none 0 0)
             R (.tuple #[.agg #[.int .i64 0, .slice none 0 0], .int .i64 16]) hv4))
         cnd (name.toList == (⟨#[119, 104, 101, 101, 108]⟩ : ByteArray).toList)
           (K2 (name.toList == (⟨#[119, 104, 101, 101, 108]⟩ : ByteArray).toList) hv2)
           (cnd (name.toList == (⟨#[112, 114, 105, 115, 109]⟩ : ByteArray).toList)
             (K2 (name.toList == (⟨#[112, 114, 105, 115, 109]⟩ : ByteArray).toList) hv2)
             (K2 (name.toList == (⟨#[115, 116, 97, 99, 107]⟩ : ByteArray).toList) hv2))))
     cnd (name.toList == (⟨#[112, 97, 116, 104]⟩ : ByteArray).toList)
       (K (name.toList == (⟨#[112, 97, 116, 104]⟩ : ByteArray).toList) hv)
       (cnd (name.toList == (⟨#[99, 121, 99, 108, 101]⟩ : ByteArray).toList)
         (K (name.toList == (⟨#[99, 121, 99, 108, 101]⟩ : ByteArray).toList) hv)
         (cnd (name.toList == (⟨#[99, 111, 109, 112, 108, 101, 116, 101]⟩ : ByteArray).toList)
           (K (name.toList == (⟨#[99, 111, 109, 112, 108, 101, 116, 101]⟩ : ByteArray).toList) hv)
           (cnd (name.toList == (⟨#[116, 119, 111]⟩ : ByteArray).toList)
             (K (name.toList == (⟨#[116, 119, 111]⟩ : ByteArray).toList) hv)
             (cnd (name.toList == (⟨#[103, 114, 105, 100]⟩ : ByteArray).toList)
               (K (name.toList == (⟨#[103, 114, 105, 100]⟩ : ByteArray).toList) hv)
               (cnd (name.toList == (⟨#[98, 111, 110, 100]⟩ : ByteArray).toList)
                 (K (name.toList == (⟨#[98, 111, 110, 100]⟩ : ByteArray).toList) hv)
                 (K (name.toList == (⟨#[114, 97, 110, 100, 111, 109]⟩ : ByteArray).toList) hv))))))) ∧
    ∀ least : Int, ∀ c0 : Int, ∀ (c1A : Option Addr) (c1L c1C : Nat), ∀ hv5, Jv [.int .i64 least, .int .i64 c0, .slice c1A c1L c1C] hv5 →
    let K3 := fun (hv8 : Heap) =>
      (let hv9 : Heap := hv8.push (.cells #[.int .i64 a] 3)
      callX Try.prog 128 #[.slice (some (⟨hv8.size, 0, none⟩ : Addr)) 1 1] hv9 [h.size] fun v hv10 =>
      ∃ r : Bool, v = .bool r ∧
      cnd r
        (let hv13 : Heap := hset (hset hv10 h.size 0 (.int .i64 0)) h.size (0 + 1) (.slice none 0 0)
        R (.tuple #[.agg #[.int .i64 0, .slice none 0 0], .int .i64 3]) hv13)
        (let hv11 : Heap := hv10.push (.cells #[.int .i64 b] 3)
        callX Try.prog 128 #[.slice (some (⟨hv10.size, 0, none⟩ : Addr)) 1 1] hv11 [h.size] fun v2 hv12 =>
        ∃ r2 : Bool, v2 = .bool r2 ∧
        cnd r2
          (let hv14 : Heap := hset (hset hv12 h.size 0 (.int .i64 0)) h.size (0 + 1) (.slice none 0 0)
          R (.tuple #[.agg #[.int .i64 0, .slice none 0 0], .int .i64 3]) hv14)
          (cnd (name.toList == (⟨#[112, 97, 116, 104]⟩ : ByteArray).toList)
            (∃ (Iv : List Value → Heap → Prop) (m : List Value → Heap → Nat), Iv [.slice none 0 0, .int .i64 0] hv12 ∧ -- loop 2: ['l', 'i']
            ∀ (lA : Option Addr) (lL lC : Nat), ∀ i : Int, ∀ hv15, Iv [.slice lA lL lC, .int .i64 i] hv15 →
            cnd (decide ((IntKind.i64.wrap (i + (1 : Int))) < a))
              (let hv16 : Heap := hv15.push (.cells #[.int .i64 i, .int .i64 (IntKind.i64.wrap (i + (1 : Int)))] 35)
              ∃ old, Ownd hv16 35 2 lA lL lC old ∧ (∀ b ∈ ([hv15.size, h.size] : List Nat), b ∉ blkOf lA) ∧ (lL + 1) * 16 ≤ 140737488355328 ∧ (lL + 1) ≤ maxLen ∧
              ∀ sA sC hv17, Ownd hv17 35 2 sA (lL + 1) sC (old ++ [.int .i64 i, .int .i64 (IntKind.i64.wrap (i + (1 : Int)))]) → Fr (blkOf lA) hv16 hv17 → ((sA = lA ∧ sC = lC) ∨ ∃ g, sA = some ⟨g, 0, none⟩ ∧ hv16.size ≤ g) → (lC < (lL + 1) → Fr [] hv16 hv17) →
              Iv [.slice sA (lL + 1) sC, .int .i64 (IntKind.i64.wrap (i + (1 : Int)))] hv17 ∧ m [.slice sA (lL + 1) sC, .int .i64 (IntKind.i64.wrap (i + (1 : Int)))] hv17 < m [.slice lA lL lC, .int .i64 i] hv15)
              (callX Try.prog 129 #[.int .i64 a, .slice lA lL lC] hv15 [h.size] fun v3 hv18 =>
              ∃ ra : Int, ∃ (raA : Option Addr) (raL raC : Nat), ∃ rb : Int, v3 = .tuple #[.agg #[.int .i64 ra, .slice raA raL raC], .int .i64 rb] ∧
              let hv19 : Heap := hset (hset hv18 h.size 0 (.int .i64 ra)) h.size (0 + 1) (.slice raA raL raC)
              R (.tuple #[.agg #[.int .i64 ra, .slice raA raL raC], .int .i64 rb]) hv19))
            (cnd (name.toList == (⟨#[99, 121, 99, 108, 101]⟩ : ByteArray).toList)
              (callX Try.prog 130 #[.slice none 0 0, .int .i64 0, .int .i64 a] hv12 [h.size] fun v4 hv20 =>
              ∃ (rA : Option Addr) (rL rC : Nat), v4 = .slice rA rL rC ∧
              callX Try.prog 129 #[.int .i64 a, .slice rA rL rC] hv20 [h.size] fun v5 hv21 =>
              ∃ ra2 : Int, ∃ (raA2 : Option Addr) (raL2 raC2 : Nat), ∃ rb2 : Int, v5 = .tuple #[.agg #[.int .i64 ra2, .slice raA2 raL2 raC2], .int .i64 rb2] ∧
              let hv22 : Heap := hset (hset hv21 h.size 0 (.int .i64 ra2)) h.size (0 + 1) (.slice raA2 raL2 raC2)
              R (.tuple #[.agg #[.int .i64 ra2, .slice raA2 raL2 raC2], .int .i64 rb2]) hv22)
              (cnd (name.toList == (⟨#[99, 111, 109, 112, 108, 101, 116, 101]⟩ : ByteArray).toList)
                (callX Try.prog 131 #[.int .i64 a] hv12 [h.size] fun v6 hv23 =>
                ∃ ra3 : Int, ∃ (raA3 : Option Addr) (raL3 raC3 : Nat), ∃ rb3 : Int, v6 = .tuple #[.agg #[.int .i64 ra3, .slice raA3 raL3 raC3], .int .i64 rb3] ∧
                let hv24 : Heap := hset (hset hv23 h.size 0 (.int .i64 ra3)) h.size (0 + 1) (.slice raA3 raL3 raC3)
                R (.tuple #[.agg #[.int .i64 ra3, .slice raA3 raL3 raC3], .int .i64 rb3]) hv24)
                (cnd (name.toList == (⟨#[116, 119, 111]⟩ : ByteArray).toList)
                  (callX Try.prog 132 #[.int .i64 a, .int .i64 b] hv12 [h.size] fun v7 hv25 =>
                  ∃ ra4 : Int, ∃ (raA4 : Option Addr) (raL4 raC4 : Nat), ∃ rb4 : Int, v7 = .tuple #[.agg #[.int .i64 ra4, .slice raA4 raL4 raC4], .int .i64 rb4] ∧
                  let hv26 : Heap := hset (hset hv25 h.size 0 (.int .i64 ra4)) h.size (0 + 1) (.slice raA4 raL4 raC4)
                  R (.tuple #[.agg #[.int .i64 ra4, .slice raA4 raL4 raC4], .int .i64 rb4]) hv26)
                  (cnd (name.toList == (⟨#[103, 114, 105, 100]⟩ : ByteArray).toList)
                    (callX Try.prog 133 #[.int .i64 a, .int .i64 b] hv12 [h.size] fun v8 hv27 =>
                    ∃ ra5 : Int, ∃ (raA5 : Option Addr) (raL5 raC5 : Nat), ∃ rb5 : Int, v8 = .tuple #[.agg #[.int .i64 ra5, .slice raA5 raL5 raC5], .int .i64 rb5] ∧
                    let hv28 : Heap := hset (hset hv27 h.size 0 (.int .i64 ra5)) h.size (0 + 1) (.slice raA5 raL5 raC5)
                    R (.tuple #[.agg #[.int .i64 ra5, .slice raA5 raL5 raC5], .int .i64 rb5]) hv28)
                    (cnd (name.toList == (⟨#[119, 104, 101, 101, 108]⟩ : ByteArray).toList)
                      (callX Try.prog 130 #[.slice none 0 0, .int .i64 0, .int .i64 a] hv12 [h.size] fun v9 hv29 =>
                      ∃ (rA2 : Option Addr) (rL2 rC2 : Nat), v9 = .slice rA2 rL2 rC2 ∧
                      ∃ (Iv2 : List Value → Heap → Prop) (m2 : List Value → Heap → Nat), Iv2 [.slice rA2 rL2 rC2, .int .i64 0] hv29 ∧ -- loop 4: ['l', 'i']
                      ∀ (lA2 : Option Addr) (lL2 lC2 : Nat), ∀ i2 : Int, ∀ hv30, Iv2 [.slice lA2 lL2 lC2, .int .i64 i2] hv30 →
                      cnd (decide (i2 < a))
                        (let hv31 : Heap := hv30.push (.cells #[.int .i64 a, .int .i64 i2] 35)
                        ∃ old2, Ownd hv31 35 2 lA2 lL2 lC2 old2 ∧ (∀ b ∈ ([hv30.size, h.size] : List Nat), b ∉ blkOf lA2) ∧ (lL2 + 1) * 16 ≤ 140737488355328 ∧ (lL2 + 1) ≤ maxLen ∧
                        ∀ sA2 sC2 hv32, Ownd hv32 35 2 sA2 (lL2 + 1) sC2 (old2 ++ [.int .i64 a, .int .i64 i2]) → Fr (blkOf lA2) hv31 hv32 → ((sA2 = lA2 ∧ sC2 = lC2) ∨ ∃ g, sA2 = some ⟨g, 0, none⟩ ∧ hv31.size ≤ g) → (lC2 < (lL2 + 1) → Fr [] hv31 hv32) →
                        Iv2 [.slice sA2 (lL2 + 1) sC2, .int .i64 (IntKind.i64.wrap (i2 + (1 : Int)))] hv32 ∧ m2 [.slice sA2 (lL2 + 1) sC2, .int .i64 (IntKind.i64.wrap (i2 + (1 : Int)))] hv32 < m2 [.slice lA2 lL2 lC2, .int .i64 i2] hv30)
                        (callX Try.prog 129 #[.int .i64 (IntKind.i64.wrap (a + (1 : Int))), .slice lA2 lL2 lC2] hv30 [h.size] fun v10 hv33 =>
                        ∃ ra6 : Int, ∃ (raA6 : Option Addr) (raL6 raC6 : Nat), ∃ rb6 : Int, v10 = .tuple #[.agg #[.int .i64 ra6, .slice raA6 raL6 raC6], .int .i64 rb6] ∧
                        let hv34 : Heap := hset (hset hv33 h.size 0 (.int .i64 ra6)) h.size (0 + 1) (.slice raA6 raL6 raC6)
                        R (.tuple #[.agg #[.int .i64 ra6, .slice raA6 raL6 raC6], .int .i64 rb6]) hv34))
                      (cnd (name.toList == (⟨#[112, 114, 105, 115, 109]⟩ : ByteArray).toList)
                        (callX Try.prog 130 #[.slice none 0 0, .int .i64 0, .int .i64 a] hv12 [h.size] fun v11 hv35 =>
                        ∃ (rA3 : Option Addr) (rL3 rC3 : Nat), v11 = .slice rA3 rL3 rC3 ∧
                        callX Try.prog 130 #[.slice rA3 rL3 rC3, .int .i64 a, .int .i64 a] hv35 [h.size] fun v12 hv36 =>
                        ∃ (rA4 : Option Addr) (rL4 rC4 : Nat), v12 = .slice rA4 rL4 rC4 ∧
                        ∃ (Iv3 : List Value → Heap → Prop) (m3 : List Value → Heap → Nat), Iv3 [.slice rA4 rL4 rC4, .int .i64 0] hv36 ∧ -- loop 6: ['l', 'i']
                        ∀ (lA3 : Option Addr) (lL3 lC3 : Nat), ∀ i3 : Int, ∀ hv37, Iv3 [.slice lA3 lL3 lC3, .int .i64 i3] hv37 →
                        cnd (decide (i3 < a))
                          (let hv38 : Heap := hv37.push (.cells #[.int .i64 i3, .int .i64 (IntKind.i64.wrap (a + i3))] 35)
                          ∃ old3, Ownd hv38 35 2 lA3 lL3 lC3 old3 ∧ (∀ b ∈ ([hv37.size, h.size] : List Nat), b ∉ blkOf lA3) ∧ (lL3 + 1) * 16 ≤ 140737488355328 ∧ (lL3 + 1) ≤ maxLen ∧
                          ∀ sA3 sC3 hv39, Ownd hv39 35 2 sA3 (lL3 + 1) sC3 (old3 ++ [.int .i64 i3, .int .i64 (IntKind.i64.wrap (a + i3))]) → Fr (blkOf lA3) hv38 hv39 → ((sA3 = lA3 ∧ sC3 = lC3) ∨ ∃ g, sA3 = some ⟨g, 0, none⟩ ∧ hv38.size ≤ g) → (lC3 < (lL3 + 1) → Fr [] hv38 hv39) →
                          Iv3 [.slice sA3 (lL3 + 1) sC3, .int .i64 (IntKind.i64.wrap (i3 + (1 : Int)))] hv39 ∧ m3 [.slice sA3 (lL3 + 1) sC3, .int .i64 (IntKind.i64.wrap (i3 + (1 : Int)))] hv39 < m3 [.slice lA3 lL3 lC3, .int .i64 i3] hv37)
                          (callX Try.prog 129 #[.int .i64 (IntKind.i64.wrap ((2 : Int) * a)), .slice lA3 lL3 lC3] hv37 [h.size] fun v13 hv40 =>
                          ∃ ra7 : Int, ∃ (raA7 : Option Addr) (raL7 raC7 : Nat), ∃ rb7 : Int, v13 = .tuple #[.agg #[.int .i64 ra7, .slice raA7 raL7 raC7], .int .i64 rb7] ∧
                          let hv41 : Heap := hset (hset hv40 h.size 0 (.int .i64 ra7)) h.size (0 + 1) (.slice raA7 raL7 raC7)
                          R (.tuple #[.agg #[.int .i64 ra7, .slice raA7 raL7 raC7], .int .i64 rb7]) hv41))
                        (cnd (name.toList == (⟨#[98, 111, 110, 100]⟩ : ByteArray).toList)
                          (∃ (Iv4 : List Value → Heap → Prop) (m4 : List Value → Heap → Nat), Iv4 [.slice none 0 0, .int .i64 0] hv12 ∧ -- loop 8: ['l', 'i']
                          ∀ (lA4 : Option Addr) (lL4 lC4 : Nat), ∀ i4 : Int, ∀ hv42, Iv4 [.slice lA4 lL4 lC4, .int .i64 i4] hv42 →
                          cnd (decide (i4 < a))
                            (let hv43 : Heap := hv42.push (.cells #[.int .i64 0, .int .i64 1] 35)
                            ∃ old4, Ownd hv43 35 2 lA4 lL4 lC4 old4 ∧ (∀ b ∈ ([hv42.size, h.size] : List Nat), b ∉ blkOf lA4) ∧ (lL4 + 1) * 16 ≤ 140737488355328 ∧ (lL4 + 1) ≤ maxLen ∧
                            ∀ sA4 sC4 hv44, Ownd hv44 35 2 sA4 (lL4 + 1) sC4 (old4 ++ [.int .i64 0, .int .i64 1]) → Fr (blkOf lA4) hv43 hv44 → ((sA4 = lA4 ∧ sC4 = lC4) ∨ ∃ g, sA4 = some ⟨g, 0, none⟩ ∧ hv43.size ≤ g) → (lC4 < (lL4 + 1) → Fr [] hv43 hv44) →
                            Iv4 [.slice sA4 (lL4 + 1) sC4, .int .i64 (IntKind.i64.wrap (i4 + (1 : Int)))] hv44 ∧ m4 [.slice sA4 (lL4 + 1) sC4, .int .i64 (IntKind.i64.wrap (i4 + (1 : Int)))] hv44 < m4 [.slice lA4 lL4 lC4, .int .i64 i4] hv42)
                            (callX Try.prog 129 #[.int .i64 2, .slice lA4 lL4 lC4] hv42 [h.size] fun v14 hv45 =>
                            ∃ ra8 : Int, ∃ (raA8 : Option Addr) (raL8 raC8 : Nat), ∃ rb8 : Int, v14 = .tuple #[.agg #[.int .i64 ra8, .slice raA8 raL8 raC8], .int .i64 rb8] ∧
                            let hv46 : Heap := hset (hset hv45 h.size 0 (.int .i64 ra8)) h.size (0 + 1) (.slice raA8 raL8 raC8)
                            R (.tuple #[.agg #[.int .i64 ra8, .slice raA8 raL8 raC8], .int .i64 rb8]) hv46))
                          (cnd (name.toList == (⟨#[114, 97, 110, 100, 111, 109]⟩ : ByteArray).toList)
                            (callX Try.prog 134 #[.int .i64 a, .int .i64 b, .int .u64 seed] hv12 [h.size] fun v15 hv47 =>
                            ∃ ra9 : Int, ∃ (raA9 : Option Addr) (raL9 raC9 : Nat), ∃ rb9 : Int, v15 = .tuple #[.agg #[.int .i64 ra9, .slice raA9 raL9 raC9], .int .i64 rb9] ∧
                            let hv48 : Heap := hset (hset hv47 h.size 0 (.int .i64 ra9)) h.size (0 + 1) (.slice raA9 raL9 raC9)
                            R (.tuple #[.agg #[.int .i64 ra9, .slice raA9 raL9 raC9], .int .i64 rb9]) hv48)
                            (callX Try.prog 135 #[.int .i64 a, .int .u64 seed] hv12 [h.size] fun v16 hv49 =>
                            ∃ ra10 : Int, ∃ (raA10 : Option Addr) (raL10 raC10 : Nat), ∃ rb10 : Int, v16 = .tuple #[.agg #[.int .i64 ra10, .slice raA10 raL10 raC10], .int .i64 rb10] ∧
                            let hv50 : Heap := hset (hset hv49 h.size 0 (.int .i64 ra10)) h.size (0 + 1) (.slice raA10 raL10 raC10)
                            R (.tuple #[.agg #[.int .i64 ra10, .slice raA10 raL10 raC10], .int .i64 rb10]) hv50))))))))))))
    cnd (decide (a < least))
      (let hv6 : Heap := hset (hset hv5 h.size 0 (.int .i64 0)) h.size (0 + 1) (.slice none 0 0)
      R (.tuple #[.agg #[.int .i64 0, .slice none 0 0], .int .i64 1]) hv6)
      (cnd (!(name.toList == (⟨#[114, 97, 110, 100, 111, 109]⟩ : ByteArray).toList))
        (cnd (decide (b < (1 : Int)))
          (let hv6 : Heap := hset (hset hv5 h.size 0 (.int .i64 0)) h.size (0 + 1) (.slice none 0 0)
          R (.tuple #[.agg #[.int .i64 0, .slice none 0 0], .int .i64 1]) hv6)
          (cnd (name.toList == (⟨#[114, 97, 110, 100, 111, 109]⟩ : ByteArray).toList)
            (cnd (decide (b < (0 : Int)))
              (let hv7 : Heap := hset (hset hv5 h.size 0 (.int .i64 0)) h.size (0 + 1) (.slice none 0 0)
              R (.tuple #[.agg #[.int .i64 0, .slice none 0 0], .int .i64 1]) hv7)
              (K3 hv5))
            (K3 hv5)))
        (cnd (name.toList == (⟨#[114, 97, 110, 100, 111, 109]⟩ : ByteArray).toList)
          (cnd (decide (b < (0 : Int)))
            (let hv7 : Heap := hset (hset hv5 h.size 0 (.int .i64 0)) h.size (0 + 1) (.slice none 0 0)
            R (.tuple #[.agg #[.int .i64 0, .slice none 0 0], .int .i64 1]) hv7)
            (K3 hv5))
          (K3 hv5))))
    (cnd (name.toList == (⟨#[103, 114, 105, 100]⟩ : ByteArray).toList)
      (∃ Jv : List Value → Heap → Prop, -- block 0 ['least']
      ( let K := fun (x : Bool) (hv2 : Heap) =>
         (cnd x
           (Jv [.int .i64 1, .int .i64 0, .slice none 0 0] hv2)
           (let K2 := fun (x2 : Bool) (hv3 : Heap) =>
             (cnd x2
               (Jv [.int .i64 3, .int .i64 0, .slice none 0 0] hv3)
               (let hv4 : Heap := hset (hset hv3 h.size 0 (.int .i64 0)) h.size (0 + 1) (.slice none 0 0)
               R (.tuple #[.agg #[.int .i64 0, .slice none 0 0], .int .i64 16]) hv4))
           cnd (name.toList == (⟨#[119, 104, 101, 101, 108]⟩ : ByteArray).toList)
             (K2 (name.toList == (⟨#[119, 104, 101, 101, 108]⟩ : ByteArray).toList) hv2)
             (cnd (name.toList == (⟨#[112, 114, 105, 115, 109]⟩ : ByteArray).toList)
               (K2 (name.toList == (⟨#[112, 114, 105, 115, 109]⟩ : ByteArray).toList) hv2)
               (K2 (name.toList == (⟨#[115, 116, 97, 99, 107]⟩ : ByteArray).toList) hv2))))
       cnd (name.toList == (⟨#[112, 97, 116, 104]⟩ : ByteArray).toList)
         (K (name.toList == (⟨#[112, 97, 116, 104]⟩ : ByteArray).toList) hv)
         (cnd (name.toList == (⟨#[99, 121, 99, 108, 101]⟩ : ByteArray).toList)
           (K (name.toList == (⟨#[99, 121, 99, 108, 101]⟩ : ByteArray).toList) hv)
           (cnd (name.toList == (⟨#[99, 111, 109, 112, 108, 101, 116, 101]⟩ : ByteArray).toList)
             (K (name.toList == (⟨#[99, 111, 109, 112, 108, 101, 116, 101]⟩ : ByteArray).toList) hv)
             (cnd (name.toList == (⟨#[116, 119, 111]⟩ : ByteArray).toList)
               (K (name.toList == (⟨#[116, 119, 111]⟩ : ByteArray).toList) hv)
               (cnd (name.toList == (⟨#[103, 114, 105, 100]⟩ : ByteArray).toList)
                 (K (name.toList == (⟨#[103, 114, 105, 100]⟩ : ByteArray).toList) hv)
                 (cnd (name.toList == (⟨#[98, 111, 110, 100]⟩ : ByteArray).toList)
                   (K (name.toList == (⟨#[98, 111, 110, 100]⟩ : ByteArray).toList) hv)
                   (K (name.toList == (⟨#[114, 97, 110, 100, 111, 109]⟩ : ByteArray).toList) hv))))))) ∧
      ∀ least : Int, ∀ c0 : Int, ∀ (c1A : Option Addr) (c1L c1C : Nat), ∀ hv5, Jv [.int .i64 least, .int .i64 c0, .slice c1A c1L c1C] hv5 →
      let K3 := fun (hv8 : Heap) =>
        (let hv9 : Heap := hv8.push (.cells #[.int .i64 a] 3)
        callX Try.prog 128 #[.slice (some (⟨hv8.size, 0, none⟩ : Addr)) 1 1] hv9 [h.size] fun v hv10 =>
        ∃ r : Bool, v = .bool r ∧
        cnd r
          (let hv13 : Heap := hset (hset hv10 h.size 0 (.int .i64 0)) h.size (0 + 1) (.slice none 0 0)
          R (.tuple #[.agg #[.int .i64 0, .slice none 0 0], .int .i64 3]) hv13)
          (let hv11 : Heap := hv10.push (.cells #[.int .i64 b] 3)
          callX Try.prog 128 #[.slice (some (⟨hv10.size, 0, none⟩ : Addr)) 1 1] hv11 [h.size] fun v2 hv12 =>
          ∃ r2 : Bool, v2 = .bool r2 ∧
          cnd r2
            (let hv14 : Heap := hset (hset hv12 h.size 0 (.int .i64 0)) h.size (0 + 1) (.slice none 0 0)
            R (.tuple #[.agg #[.int .i64 0, .slice none 0 0], .int .i64 3]) hv14)
            (cnd (name.toList == (⟨#[112, 97, 116, 104]⟩ : ByteArray).toList)
              (∃ (Iv : List Value → Heap → Prop) (m : List Value → Heap → Nat), Iv [.slice none 0 0, .int .i64 0] hv12 ∧ -- loop 2: ['l', 'i']
              ∀ (lA : Option Addr) (lL lC : Nat), ∀ i : Int, ∀ hv15, Iv [.slice lA lL lC, .int .i64 i] hv15 →
              cnd (decide ((IntKind.i64.wrap (i + (1 : Int))) < a))
                (let hv16 : Heap := hv15.push (.cells #[.int .i64 i, .int .i64 (IntKind.i64.wrap (i + (1 : Int)))] 35)
                ∃ old, Ownd hv16 35 2 lA lL lC old ∧ (∀ b ∈ ([hv15.size, h.size] : List Nat), b ∉ blkOf lA) ∧ (lL + 1) * 16 ≤ 140737488355328 ∧ (lL + 1) ≤ maxLen ∧
                ∀ sA sC hv17, Ownd hv17 35 2 sA (lL + 1) sC (old ++ [.int .i64 i, .int .i64 (IntKind.i64.wrap (i + (1 : Int)))]) → Fr (blkOf lA) hv16 hv17 → ((sA = lA ∧ sC = lC) ∨ ∃ g, sA = some ⟨g, 0, none⟩ ∧ hv16.size ≤ g) → (lC < (lL + 1) → Fr [] hv16 hv17) →
                Iv [.slice sA (lL + 1) sC, .int .i64 (IntKind.i64.wrap (i + (1 : Int)))] hv17 ∧ m [.slice sA (lL + 1) sC, .int .i64 (IntKind.i64.wrap (i + (1 : Int)))] hv17 < m [.slice lA lL lC, .int .i64 i] hv15)
                (callX Try.prog 129 #[.int .i64 a, .slice lA lL lC] hv15 [h.size] fun v3 hv18 =>
                ∃ ra : Int, ∃ (raA : Option Addr) (raL raC : Nat), ∃ rb : Int, v3 = .tuple #[.agg #[.int .i64 ra, .slice raA raL raC], .int .i64 rb] ∧
                let hv19 : Heap := hset (hset hv18 h.size 0 (.int .i64 ra)) h.size (0 + 1) (.slice raA raL raC)
                R (.tuple #[.agg #[.int .i64 ra, .slice raA raL raC], .int .i64 rb]) hv19))
              (cnd (name.toList == (⟨#[99, 121, 99, 108, 101]⟩ : ByteArray).toList)
                (callX Try.prog 130 #[.slice none 0 0, .int .i64 0, .int .i64 a] hv12 [h.size] fun v4 hv20 =>
                ∃ (rA : Option Addr) (rL rC : Nat), v4 = .slice rA rL rC ∧
                callX Try.prog 129 #[.int .i64 a, .slice rA rL rC] hv20 [h.size] fun v5 hv21 =>
                ∃ ra2 : Int, ∃ (raA2 : Option Addr) (raL2 raC2 : Nat), ∃ rb2 : Int, v5 = .tuple #[.agg #[.int .i64 ra2, .slice raA2 raL2 raC2], .int .i64 rb2] ∧
                let hv22 : Heap := hset (hset hv21 h.size 0 (.int .i64 ra2)) h.size (0 + 1) (.slice raA2 raL2 raC2)
                R (.tuple #[.agg #[.int .i64 ra2, .slice raA2 raL2 raC2], .int .i64 rb2]) hv22)
                (cnd (name.toList == (⟨#[99, 111, 109, 112, 108, 101, 116, 101]⟩ : ByteArray).toList)
                  (callX Try.prog 131 #[.int .i64 a] hv12 [h.size] fun v6 hv23 =>
                  ∃ ra3 : Int, ∃ (raA3 : Option Addr) (raL3 raC3 : Nat), ∃ rb3 : Int, v6 = .tuple #[.agg #[.int .i64 ra3, .slice raA3 raL3 raC3], .int .i64 rb3] ∧
                  let hv24 : Heap := hset (hset hv23 h.size 0 (.int .i64 ra3)) h.size (0 + 1) (.slice raA3 raL3 raC3)
                  R (.tuple #[.agg #[.int .i64 ra3, .slice raA3 raL3 raC3], .int .i64 rb3]) hv24)
                  (cnd (name.toList == (⟨#[116, 119, 111]⟩ : ByteArray).toList)
                    (callX Try.prog 132 #[.int .i64 a, .int .i64 b] hv12 [h.size] fun v7 hv25 =>
                    ∃ ra4 : Int, ∃ (raA4 : Option Addr) (raL4 raC4 : Nat), ∃ rb4 : Int, v7 = .tuple #[.agg #[.int .i64 ra4, .slice raA4 raL4 raC4], .int .i64 rb4] ∧
                    let hv26 : Heap := hset (hset hv25 h.size 0 (.int .i64 ra4)) h.size (0 + 1) (.slice raA4 raL4 raC4)
                    R (.tuple #[.agg #[.int .i64 ra4, .slice raA4 raL4 raC4], .int .i64 rb4]) hv26)
                    (cnd (name.toList == (⟨#[103, 114, 105, 100]⟩ : ByteArray).toList)
                      (callX Try.prog 133 #[.int .i64 a, .int .i64 b] hv12 [h.size] fun v8 hv27 =>
                      ∃ ra5 : Int, ∃ (raA5 : Option Addr) (raL5 raC5 : Nat), ∃ rb5 : Int, v8 = .tuple #[.agg #[.int .i64 ra5, .slice raA5 raL5 raC5], .int .i64 rb5] ∧
                      let hv28 : Heap := hset (hset hv27 h.size 0 (.int .i64 ra5)) h.size (0 + 1) (.slice raA5 raL5 raC5)
                      R (.tuple #[.agg #[.int .i64 ra5, .slice raA5 raL5 raC5], .int .i64 rb5]) hv28)
                      (cnd (name.toList == (⟨#[119, 104, 101, 101, 108]⟩ : ByteArray).toList)
                        (callX Try.prog 130 #[.slice none 0 0, .int .i64 0, .int .i64 a] hv12 [h.size] fun v9 hv29 =>
                        ∃ (rA2 : Option Addr) (rL2 rC2 : Nat), v9 = .slice rA2 rL2 rC2 ∧
                        ∃ (Iv2 : List Value → Heap → Prop) (m2 : List Value → Heap → Nat), Iv2 [.slice rA2 rL2 rC2, .int .i64 0] hv29 ∧ -- loop 4: ['l', 'i']
                        ∀ (lA2 : Option Addr) (lL2 lC2 : Nat), ∀ i2 : Int, ∀ hv30, Iv2 [.slice lA2 lL2 lC2, .int .i64 i2] hv30 →
                        cnd (decide (i2 < a))
                          (let hv31 : Heap := hv30.push (.cells #[.int .i64 a, .int .i64 i2] 35)
                          ∃ old2, Ownd hv31 35 2 lA2 lL2 lC2 old2 ∧ (∀ b ∈ ([hv30.size, h.size] : List Nat), b ∉ blkOf lA2) ∧ (lL2 + 1) * 16 ≤ 140737488355328 ∧ (lL2 + 1) ≤ maxLen ∧
                          ∀ sA2 sC2 hv32, Ownd hv32 35 2 sA2 (lL2 + 1) sC2 (old2 ++ [.int .i64 a, .int .i64 i2]) → Fr (blkOf lA2) hv31 hv32 → ((sA2 = lA2 ∧ sC2 = lC2) ∨ ∃ g, sA2 = some ⟨g, 0, none⟩ ∧ hv31.size ≤ g) → (lC2 < (lL2 + 1) → Fr [] hv31 hv32) →
                          Iv2 [.slice sA2 (lL2 + 1) sC2, .int .i64 (IntKind.i64.wrap (i2 + (1 : Int)))] hv32 ∧ m2 [.slice sA2 (lL2 + 1) sC2, .int .i64 (IntKind.i64.wrap (i2 + (1 : Int)))] hv32 < m2 [.slice lA2 lL2 lC2, .int .i64 i2] hv30)
                          (callX Try.prog 129 #[.int .i64 (IntKind.i64.wrap (a + (1 : Int))), .slice lA2 lL2 lC2] hv30 [h.size] fun v10 hv33 =>
                          ∃ ra6 : Int, ∃ (raA6 : Option Addr) (raL6 raC6 : Nat), ∃ rb6 : Int, v10 = .tuple #[.agg #[.int .i64 ra6, .slice raA6 raL6 raC6], .int .i64 rb6] ∧
                          let hv34 : Heap := hset (hset hv33 h.size 0 (.int .i64 ra6)) h.size (0 + 1) (.slice raA6 raL6 raC6)
                          R (.tuple #[.agg #[.int .i64 ra6, .slice raA6 raL6 raC6], .int .i64 rb6]) hv34))
                        (cnd (name.toList == (⟨#[112, 114, 105, 115, 109]⟩ : ByteArray).toList)
                          (callX Try.prog 130 #[.slice none 0 0, .int .i64 0, .int .i64 a] hv12 [h.size] fun v11 hv35 =>
                          ∃ (rA3 : Option Addr) (rL3 rC3 : Nat), v11 = .slice rA3 rL3 rC3 ∧
                          callX Try.prog 130 #[.slice rA3 rL3 rC3, .int .i64 a, .int .i64 a] hv35 [h.size] fun v12 hv36 =>
                          ∃ (rA4 : Option Addr) (rL4 rC4 : Nat), v12 = .slice rA4 rL4 rC4 ∧
                          ∃ (Iv3 : List Value → Heap → Prop) (m3 : List Value → Heap → Nat), Iv3 [.slice rA4 rL4 rC4, .int .i64 0] hv36 ∧ -- loop 6: ['l', 'i']
                          ∀ (lA3 : Option Addr) (lL3 lC3 : Nat), ∀ i3 : Int, ∀ hv37, Iv3 [.slice lA3 lL3 lC3, .int .i64 i3] hv37 →
                          cnd (decide (i3 < a))
                            (let hv38 : Heap := hv37.push (.cells #[.int .i64 i3, .int .i64 (IntKind.i64.wrap (a + i3))] 35)
                            ∃ old3, Ownd hv38 35 2 lA3 lL3 lC3 old3 ∧ (∀ b ∈ ([hv37.size, h.size] : List Nat), b ∉ blkOf lA3) ∧ (lL3 + 1) * 16 ≤ 140737488355328 ∧ (lL3 + 1) ≤ maxLen ∧
                            ∀ sA3 sC3 hv39, Ownd hv39 35 2 sA3 (lL3 + 1) sC3 (old3 ++ [.int .i64 i3, .int .i64 (IntKind.i64.wrap (a + i3))]) → Fr (blkOf lA3) hv38 hv39 → ((sA3 = lA3 ∧ sC3 = lC3) ∨ ∃ g, sA3 = some ⟨g, 0, none⟩ ∧ hv38.size ≤ g) → (lC3 < (lL3 + 1) → Fr [] hv38 hv39) →
                            Iv3 [.slice sA3 (lL3 + 1) sC3, .int .i64 (IntKind.i64.wrap (i3 + (1 : Int)))] hv39 ∧ m3 [.slice sA3 (lL3 + 1) sC3, .int .i64 (IntKind.i64.wrap (i3 + (1 : Int)))] hv39 < m3 [.slice lA3 lL3 lC3, .int .i64 i3] hv37)
                            (callX Try.prog 129 #[.int .i64 (IntKind.i64.wrap ((2 : Int) * a)), .slice lA3 lL3 lC3] hv37 [h.size] fun v13 hv40 =>
                            ∃ ra7 : Int, ∃ (raA7 : Option Addr) (raL7 raC7 : Nat), ∃ rb7 : Int, v13 = .tuple #[.agg #[.int .i64 ra7, .slice raA7 raL7 raC7], .int .i64 rb7] ∧
                            let hv41 : Heap := hset (hset hv40 h.size 0 (.int .i64 ra7)) h.size (0 + 1) (.slice raA7 raL7 raC7)
                            R (.tuple #[.agg #[.int .i64 ra7, .slice raA7 raL7 raC7], .int .i64 rb7]) hv41))
                          (cnd (name.toList == (⟨#[98, 111, 110, 100]⟩ : ByteArray).toList)
                            (∃ (Iv4 : List Value → Heap → Prop) (m4 : List Value → Heap → Nat), Iv4 [.slice none 0 0, .int .i64 0] hv12 ∧ -- loop 8: ['l', 'i']
                            ∀ (lA4 : Option Addr) (lL4 lC4 : Nat), ∀ i4 : Int, ∀ hv42, Iv4 [.slice lA4 lL4 lC4, .int .i64 i4] hv42 →
                            cnd (decide (i4 < a))
                              (let hv43 : Heap := hv42.push (.cells #[.int .i64 0, .int .i64 1] 35)
                              ∃ old4, Ownd hv43 35 2 lA4 lL4 lC4 old4 ∧ (∀ b ∈ ([hv42.size, h.size] : List Nat), b ∉ blkOf lA4) ∧ (lL4 + 1) * 16 ≤ 140737488355328 ∧ (lL4 + 1) ≤ maxLen ∧
                              ∀ sA4 sC4 hv44, Ownd hv44 35 2 sA4 (lL4 + 1) sC4 (old4 ++ [.int .i64 0, .int .i64 1]) → Fr (blkOf lA4) hv43 hv44 → ((sA4 = lA4 ∧ sC4 = lC4) ∨ ∃ g, sA4 = some ⟨g, 0, none⟩ ∧ hv43.size ≤ g) → (lC4 < (lL4 + 1) → Fr [] hv43 hv44) →
                              Iv4 [.slice sA4 (lL4 + 1) sC4, .int .i64 (IntKind.i64.wrap (i4 + (1 : Int)))] hv44 ∧ m4 [.slice sA4 (lL4 + 1) sC4, .int .i64 (IntKind.i64.wrap (i4 + (1 : Int)))] hv44 < m4 [.slice lA4 lL4 lC4, .int .i64 i4] hv42)
                              (callX Try.prog 129 #[.int .i64 2, .slice lA4 lL4 lC4] hv42 [h.size] fun v14 hv45 =>
                              ∃ ra8 : Int, ∃ (raA8 : Option Addr) (raL8 raC8 : Nat), ∃ rb8 : Int, v14 = .tuple #[.agg #[.int .i64 ra8, .slice raA8 raL8 raC8], .int .i64 rb8] ∧
                              let hv46 : Heap := hset (hset hv45 h.size 0 (.int .i64 ra8)) h.size (0 + 1) (.slice raA8 raL8 raC8)
                              R (.tuple #[.agg #[.int .i64 ra8, .slice raA8 raL8 raC8], .int .i64 rb8]) hv46))
                            (cnd (name.toList == (⟨#[114, 97, 110, 100, 111, 109]⟩ : ByteArray).toList)
                              (callX Try.prog 134 #[.int .i64 a, .int .i64 b, .int .u64 seed] hv12 [h.size] fun v15 hv47 =>
                              ∃ ra9 : Int, ∃ (raA9 : Option Addr) (raL9 raC9 : Nat), ∃ rb9 : Int, v15 = .tuple #[.agg #[.int .i64 ra9, .slice raA9 raL9 raC9], .int .i64 rb9] ∧
                              let hv48 : Heap := hset (hset hv47 h.size 0 (.int .i64 ra9)) h.size (0 + 1) (.slice raA9 raL9 raC9)
                              R (.tuple #[.agg #[.int .i64 ra9, .slice raA9 raL9 raC9], .int .i64 rb9]) hv48)
                              (callX Try.prog 135 #[.int .i64 a, .int .u64 seed] hv12 [h.size] fun v16 hv49 =>
                              ∃ ra10 : Int, ∃ (raA10 : Option Addr) (raL10 raC10 : Nat), ∃ rb10 : Int, v16 = .tuple #[.agg #[.int .i64 ra10, .slice raA10 raL10 raC10], .int .i64 rb10] ∧
                              let hv50 : Heap := hset (hset hv49 h.size 0 (.int .i64 ra10)) h.size (0 + 1) (.slice raA10 raL10 raC10)
                              R (.tuple #[.agg #[.int .i64 ra10, .slice raA10 raL10 raC10], .int .i64 rb10]) hv50))))))))))))
      cnd (decide (a < least))
        (let hv6 : Heap := hset (hset hv5 h.size 0 (.int .i64 0)) h.size (0 + 1) (.slice none 0 0)
        R (.tuple #[.agg #[.int .i64 0, .slice none 0 0], .int .i64 1]) hv6)
        (cnd (!(name.toList == (⟨#[114, 97, 110, 100, 111, 109]⟩ : ByteArray).toList))
          (cnd (decide (b < (1 : Int)))
            (let hv6 : Heap := hset (hset hv5 h.size 0 (.int .i64 0)) h.size (0 + 1) (.slice none 0 0)
            R (.tuple #[.agg #[.int .i64 0, .slice none 0 0], .int .i64 1]) hv6)
            (cnd (name.toList == (⟨#[114, 97, 110, 100, 111, 109]⟩ : ByteArray).toList)
              (cnd (decide (b < (0 : Int)))
                (let hv7 : Heap := hset (hset hv5 h.size 0 (.int .i64 0)) h.size (0 + 1) (.slice none 0 0)
                R (.tuple #[.agg #[.int .i64 0, .slice none 0 0], .int .i64 1]) hv7)
                (K3 hv5))
              (K3 hv5)))
          (cnd (name.toList == (⟨#[114, 97, 110, 100, 111, 109]⟩ : ByteArray).toList)
            (cnd (decide (b < (0 : Int)))
              (let hv7 : Heap := hset (hset hv5 h.size 0 (.int .i64 0)) h.size (0 + 1) (.slice none 0 0)
              R (.tuple #[.agg #[.int .i64 0, .slice none 0 0], .int .i64 1]) hv7)
              (K3 hv5))
            (K3 hv5))))
      (∃ Jv2 : List Value → Heap → Prop, -- block 0 ['least']
      ( let K4 := fun (x3 : Bool) (hv51 : Heap) =>
         (cnd x3
           (Jv2 [.int .i64 1, .int .i64 0, .slice none 0 0] hv51)
           (let K5 := fun (x4 : Bool) (hv52 : Heap) =>
             (cnd x4
               (Jv2 [.int .i64 3, .int .i64 0, .slice none 0 0] hv52)
               (let hv53 : Heap := hset (hset hv52 h.size 0 (.int .i64 0)) h.size (0 + 1) (.slice none 0 0)
               R (.tuple #[.agg #[.int .i64 0, .slice none 0 0], .int .i64 16]) hv53))
           cnd (name.toList == (⟨#[119, 104, 101, 101, 108]⟩ : ByteArray).toList)
             (K5 (name.toList == (⟨#[119, 104, 101, 101, 108]⟩ : ByteArray).toList) hv51)
             (cnd (name.toList == (⟨#[112, 114, 105, 115, 109]⟩ : ByteArray).toList)
               (K5 (name.toList == (⟨#[112, 114, 105, 115, 109]⟩ : ByteArray).toList) hv51)
               (K5 (name.toList == (⟨#[115, 116, 97, 99, 107]⟩ : ByteArray).toList) hv51))))
       cnd (name.toList == (⟨#[112, 97, 116, 104]⟩ : ByteArray).toList)
         (K4 (name.toList == (⟨#[112, 97, 116, 104]⟩ : ByteArray).toList) hv)
         (cnd (name.toList == (⟨#[99, 121, 99, 108, 101]⟩ : ByteArray).toList)
           (K4 (name.toList == (⟨#[99, 121, 99, 108, 101]⟩ : ByteArray).toList) hv)
           (cnd (name.toList == (⟨#[99, 111, 109, 112, 108, 101, 116, 101]⟩ : ByteArray).toList)
             (K4 (name.toList == (⟨#[99, 111, 109, 112, 108, 101, 116, 101]⟩ : ByteArray).toList) hv)
             (cnd (name.toList == (⟨#[116, 119, 111]⟩ : ByteArray).toList)
               (K4 (name.toList == (⟨#[116, 119, 111]⟩ : ByteArray).toList) hv)
               (cnd (name.toList == (⟨#[103, 114, 105, 100]⟩ : ByteArray).toList)
                 (K4 (name.toList == (⟨#[103, 114, 105, 100]⟩ : ByteArray).toList) hv)
                 (cnd (name.toList == (⟨#[98, 111, 110, 100]⟩ : ByteArray).toList)
                   (K4 (name.toList == (⟨#[98, 111, 110, 100]⟩ : ByteArray).toList) hv)
                   (K4 (name.toList == (⟨#[114, 97, 110, 100, 111, 109]⟩ : ByteArray).toList) hv))))))) ∧
      ∀ least2 : Int, ∀ c0_2 : Int, ∀ (c1A2 : Option Addr) (c1L2 c1C2 : Nat), ∀ hv54, Jv2 [.int .i64 least2, .int .i64 c0_2, .slice c1A2 c1L2 c1C2] hv54 →
      let K6 := fun (hv57 : Heap) =>
        (let K7 := fun (hv64 : Heap) =>
          (cnd (name.toList == (⟨#[112, 97, 116, 104]⟩ : ByteArray).toList)
            (∃ (Iv5 : List Value → Heap → Prop) (m5 : List Value → Heap → Nat), Iv5 [.slice none 0 0, .int .i64 0] hv64 ∧ -- loop 2: ['l', 'i']
            ∀ (lA5 : Option Addr) (lL5 lC5 : Nat), ∀ i5 : Int, ∀ hv65, Iv5 [.slice lA5 lL5 lC5, .int .i64 i5] hv65 →
            cnd (decide ((IntKind.i64.wrap (i5 + (1 : Int))) < a))
              (let hv66 : Heap := hv65.push (.cells #[.int .i64 i5, .int .i64 (IntKind.i64.wrap (i5 + (1 : Int)))] 35)
              ∃ old5, Ownd hv66 35 2 lA5 lL5 lC5 old5 ∧ (∀ b ∈ ([hv65.size, h.size] : List Nat), b ∉ blkOf lA5) ∧ (lL5 + 1) * 16 ≤ 140737488355328 ∧ (lL5 + 1) ≤ maxLen ∧
              ∀ sA5 sC5 hv67, Ownd hv67 35 2 sA5 (lL5 + 1) sC5 (old5 ++ [.int .i64 i5, .int .i64 (IntKind.i64.wrap (i5 + (1 : Int)))]) → Fr (blkOf lA5) hv66 hv67 → ((sA5 = lA5 ∧ sC5 = lC5) ∨ ∃ g, sA5 = some ⟨g, 0, none⟩ ∧ hv66.size ≤ g) → (lC5 < (lL5 + 1) → Fr [] hv66 hv67) →
              Iv5 [.slice sA5 (lL5 + 1) sC5, .int .i64 (IntKind.i64.wrap (i5 + (1 : Int)))] hv67 ∧ m5 [.slice sA5 (lL5 + 1) sC5, .int .i64 (IntKind.i64.wrap (i5 + (1 : Int)))] hv67 < m5 [.slice lA5 lL5 lC5, .int .i64 i5] hv65)
              (callX Try.prog 129 #[.int .i64 a, .slice lA5 lL5 lC5] hv65 [h.size] fun v19 hv68 =>
              ∃ ra11 : Int, ∃ (raA11 : Option Addr) (raL11 raC11 : Nat), ∃ rb11 : Int, v19 = .tuple #[.agg #[.int .i64 ra11, .slice raA11 raL11 raC11], .int .i64 rb11] ∧
              let hv69 : Heap := hset (hset hv68 h.size 0 (.int .i64 ra11)) h.size (0 + 1) (.slice raA11 raL11 raC11)
              R (.tuple #[.agg #[.int .i64 ra11, .slice raA11 raL11 raC11], .int .i64 rb11]) hv69))
            (cnd (name.toList == (⟨#[99, 121, 99, 108, 101]⟩ : ByteArray).toList)
              (callX Try.prog 130 #[.slice none 0 0, .int .i64 0, .int .i64 a] hv64 [h.size] fun v20 hv70 =>
              ∃ (rA5 : Option Addr) (rL5 rC5 : Nat), v20 = .slice rA5 rL5 rC5 ∧
              callX Try.prog 129 #[.int .i64 a, .slice rA5 rL5 rC5] hv70 [h.size] fun v21 hv71 =>
              ∃ ra12 : Int, ∃ (raA12 : Option Addr) (raL12 raC12 : Nat), ∃ rb12 : Int, v21 = .tuple #[.agg #[.int .i64 ra12, .slice raA12 raL12 raC12], .int .i64 rb12] ∧
              let hv72 : Heap := hset (hset hv71 h.size 0 (.int .i64 ra12)) h.size (0 + 1) (.slice raA12 raL12 raC12)
              R (.tuple #[.agg #[.int .i64 ra12, .slice raA12 raL12 raC12], .int .i64 rb12]) hv72)
              (cnd (name.toList == (⟨#[99, 111, 109, 112, 108, 101, 116, 101]⟩ : ByteArray).toList)
                (callX Try.prog 131 #[.int .i64 a] hv64 [h.size] fun v22 hv73 =>
                ∃ ra13 : Int, ∃ (raA13 : Option Addr) (raL13 raC13 : Nat), ∃ rb13 : Int, v22 = .tuple #[.agg #[.int .i64 ra13, .slice raA13 raL13 raC13], .int .i64 rb13] ∧
                let hv74 : Heap := hset (hset hv73 h.size 0 (.int .i64 ra13)) h.size (0 + 1) (.slice raA13 raL13 raC13)
                R (.tuple #[.agg #[.int .i64 ra13, .slice raA13 raL13 raC13], .int .i64 rb13]) hv74)
                (cnd (name.toList == (⟨#[116, 119, 111]⟩ : ByteArray).toList)
                  (callX Try.prog 132 #[.int .i64 a, .int .i64 b] hv64 [h.size] fun v23 hv75 =>
                  ∃ ra14 : Int, ∃ (raA14 : Option Addr) (raL14 raC14 : Nat), ∃ rb14 : Int, v23 = .tuple #[.agg #[.int .i64 ra14, .slice raA14 raL14 raC14], .int .i64 rb14] ∧
                  let hv76 : Heap := hset (hset hv75 h.size 0 (.int .i64 ra14)) h.size (0 + 1) (.slice raA14 raL14 raC14)
                  R (.tuple #[.agg #[.int .i64 ra14, .slice raA14 raL14 raC14], .int .i64 rb14]) hv76)
                  (cnd (name.toList == (⟨#[103, 114, 105, 100]⟩ : ByteArray).toList)
                    (callX Try.prog 133 #[.int .i64 a, .int .i64 b] hv64 [h.size] fun v24 hv77 =>
                    ∃ ra15 : Int, ∃ (raA15 : Option Addr) (raL15 raC15 : Nat), ∃ rb15 : Int, v24 = .tuple #[.agg #[.int .i64 ra15, .slice raA15 raL15 raC15], .int .i64 rb15] ∧
                    let hv78 : Heap := hset (hset hv77 h.size 0 (.int .i64 ra15)) h.size (0 + 1) (.slice raA15 raL15 raC15)
                    R (.tuple #[.agg #[.int .i64 ra15, .slice raA15 raL15 raC15], .int .i64 rb15]) hv78)
                    (cnd (name.toList == (⟨#[119, 104, 101, 101, 108]⟩ : ByteArray).toList)
                      (callX Try.prog 130 #[.slice none 0 0, .int .i64 0, .int .i64 a] hv64 [h.size] fun v25 hv79 =>
                      ∃ (rA6 : Option Addr) (rL6 rC6 : Nat), v25 = .slice rA6 rL6 rC6 ∧
                      ∃ (Iv6 : List Value → Heap → Prop) (m6 : List Value → Heap → Nat), Iv6 [.slice rA6 rL6 rC6, .int .i64 0] hv79 ∧ -- loop 4: ['l', 'i']
                      ∀ (lA6 : Option Addr) (lL6 lC6 : Nat), ∀ i6 : Int, ∀ hv80, Iv6 [.slice lA6 lL6 lC6, .int .i64 i6] hv80 →
                      cnd (decide (i6 < a))
                        (let hv81 : Heap := hv80.push (.cells #[.int .i64 a, .int .i64 i6] 35)
                        ∃ old6, Ownd hv81 35 2 lA6 lL6 lC6 old6 ∧ (∀ b ∈ ([hv80.size, h.size] : List Nat), b ∉ blkOf lA6) ∧ (lL6 + 1) * 16 ≤ 140737488355328 ∧ (lL6 + 1) ≤ maxLen ∧
                        ∀ sA6 sC6 hv82, Ownd hv82 35 2 sA6 (lL6 + 1) sC6 (old6 ++ [.int .i64 a, .int .i64 i6]) → Fr (blkOf lA6) hv81 hv82 → ((sA6 = lA6 ∧ sC6 = lC6) ∨ ∃ g, sA6 = some ⟨g, 0, none⟩ ∧ hv81.size ≤ g) → (lC6 < (lL6 + 1) → Fr [] hv81 hv82) →
                        Iv6 [.slice sA6 (lL6 + 1) sC6, .int .i64 (IntKind.i64.wrap (i6 + (1 : Int)))] hv82 ∧ m6 [.slice sA6 (lL6 + 1) sC6, .int .i64 (IntKind.i64.wrap (i6 + (1 : Int)))] hv82 < m6 [.slice lA6 lL6 lC6, .int .i64 i6] hv80)
                        (callX Try.prog 129 #[.int .i64 (IntKind.i64.wrap (a + (1 : Int))), .slice lA6 lL6 lC6] hv80 [h.size] fun v26 hv83 =>
                        ∃ ra16 : Int, ∃ (raA16 : Option Addr) (raL16 raC16 : Nat), ∃ rb16 : Int, v26 = .tuple #[.agg #[.int .i64 ra16, .slice raA16 raL16 raC16], .int .i64 rb16] ∧
                        let hv84 : Heap := hset (hset hv83 h.size 0 (.int .i64 ra16)) h.size (0 + 1) (.slice raA16 raL16 raC16)
                        R (.tuple #[.agg #[.int .i64 ra16, .slice raA16 raL16 raC16], .int .i64 rb16]) hv84))
                      (cnd (name.toList == (⟨#[112, 114, 105, 115, 109]⟩ : ByteArray).toList)
                        (callX Try.prog 130 #[.slice none 0 0, .int .i64 0, .int .i64 a] hv64 [h.size] fun v27 hv85 =>
                        ∃ (rA7 : Option Addr) (rL7 rC7 : Nat), v27 = .slice rA7 rL7 rC7 ∧
                        callX Try.prog 130 #[.slice rA7 rL7 rC7, .int .i64 a, .int .i64 a] hv85 [h.size] fun v28 hv86 =>
                        ∃ (rA8 : Option Addr) (rL8 rC8 : Nat), v28 = .slice rA8 rL8 rC8 ∧
                        ∃ (Iv7 : List Value → Heap → Prop) (m7 : List Value → Heap → Nat), Iv7 [.slice rA8 rL8 rC8, .int .i64 0] hv86 ∧ -- loop 6: ['l', 'i']
                        ∀ (lA7 : Option Addr) (lL7 lC7 : Nat), ∀ i7 : Int, ∀ hv87, Iv7 [.slice lA7 lL7 lC7, .int .i64 i7] hv87 →
                        cnd (decide (i7 < a))
                          (let hv88 : Heap := hv87.push (.cells #[.int .i64 i7, .int .i64 (IntKind.i64.wrap (a + i7))] 35)
                          ∃ old7, Ownd hv88 35 2 lA7 lL7 lC7 old7 ∧ (∀ b ∈ ([hv87.size, h.size] : List Nat), b ∉ blkOf lA7) ∧ (lL7 + 1) * 16 ≤ 140737488355328 ∧ (lL7 + 1) ≤ maxLen ∧
                          ∀ sA7 sC7 hv89, Ownd hv89 35 2 sA7 (lL7 + 1) sC7 (old7 ++ [.int .i64 i7, .int .i64 (IntKind.i64.wrap (a + i7))]) → Fr (blkOf lA7) hv88 hv89 → ((sA7 = lA7 ∧ sC7 = lC7) ∨ ∃ g, sA7 = some ⟨g, 0, none⟩ ∧ hv88.size ≤ g) → (lC7 < (lL7 + 1) → Fr [] hv88 hv89) →
                          Iv7 [.slice sA7 (lL7 + 1) sC7, .int .i64 (IntKind.i64.wrap (i7 + (1 : Int)))] hv89 ∧ m7 [.slice sA7 (lL7 + 1) sC7, .int .i64 (IntKind.i64.wrap (i7 + (1 : Int)))] hv89 < m7 [.slice lA7 lL7 lC7, .int .i64 i7] hv87)
                          (callX Try.prog 129 #[.int .i64 (IntKind.i64.wrap ((2 : Int) * a)), .slice lA7 lL7 lC7] hv87 [h.size] fun v29 hv90 =>
                          ∃ ra17 : Int, ∃ (raA17 : Option Addr) (raL17 raC17 : Nat), ∃ rb17 : Int, v29 = .tuple #[.agg #[.int .i64 ra17, .slice raA17 raL17 raC17], .int .i64 rb17] ∧
                          let hv91 : Heap := hset (hset hv90 h.size 0 (.int .i64 ra17)) h.size (0 + 1) (.slice raA17 raL17 raC17)
                          R (.tuple #[.agg #[.int .i64 ra17, .slice raA17 raL17 raC17], .int .i64 rb17]) hv91))
                        (cnd (name.toList == (⟨#[98, 111, 110, 100]⟩ : ByteArray).toList)
                          (∃ (Iv8 : List Value → Heap → Prop) (m8 : List Value → Heap → Nat), Iv8 [.slice none 0 0, .int .i64 0] hv64 ∧ -- loop 8: ['l', 'i']
                          ∀ (lA8 : Option Addr) (lL8 lC8 : Nat), ∀ i8 : Int, ∀ hv92, Iv8 [.slice lA8 lL8 lC8, .int .i64 i8] hv92 →
                          cnd (decide (i8 < a))
                            (let hv93 : Heap := hv92.push (.cells #[.int .i64 0, .int .i64 1] 35)
                            ∃ old8, Ownd hv93 35 2 lA8 lL8 lC8 old8 ∧ (∀ b ∈ ([hv92.size, h.size] : List Nat), b ∉ blkOf lA8) ∧ (lL8 + 1) * 16 ≤ 140737488355328 ∧ (lL8 + 1) ≤ maxLen ∧
                            ∀ sA8 sC8 hv94, Ownd hv94 35 2 sA8 (lL8 + 1) sC8 (old8 ++ [.int .i64 0, .int .i64 1]) → Fr (blkOf lA8) hv93 hv94 → ((sA8 = lA8 ∧ sC8 = lC8) ∨ ∃ g, sA8 = some ⟨g, 0, none⟩ ∧ hv93.size ≤ g) → (lC8 < (lL8 + 1) → Fr [] hv93 hv94) →
                            Iv8 [.slice sA8 (lL8 + 1) sC8, .int .i64 (IntKind.i64.wrap (i8 + (1 : Int)))] hv94 ∧ m8 [.slice sA8 (lL8 + 1) sC8, .int .i64 (IntKind.i64.wrap (i8 + (1 : Int)))] hv94 < m8 [.slice lA8 lL8 lC8, .int .i64 i8] hv92)
                            (callX Try.prog 129 #[.int .i64 2, .slice lA8 lL8 lC8] hv92 [h.size] fun v30 hv95 =>
                            ∃ ra18 : Int, ∃ (raA18 : Option Addr) (raL18 raC18 : Nat), ∃ rb18 : Int, v30 = .tuple #[.agg #[.int .i64 ra18, .slice raA18 raL18 raC18], .int .i64 rb18] ∧
                            let hv96 : Heap := hset (hset hv95 h.size 0 (.int .i64 ra18)) h.size (0 + 1) (.slice raA18 raL18 raC18)
                            R (.tuple #[.agg #[.int .i64 ra18, .slice raA18 raL18 raC18], .int .i64 rb18]) hv96))
                          (cnd (name.toList == (⟨#[114, 97, 110, 100, 111, 109]⟩ : ByteArray).toList)
                            (callX Try.prog 134 #[.int .i64 a, .int .i64 b, .int .u64 seed] hv64 [h.size] fun v31 hv97 =>
                            ∃ ra19 : Int, ∃ (raA19 : Option Addr) (raL19 raC19 : Nat), ∃ rb19 : Int, v31 = .tuple #[.agg #[.int .i64 ra19, .slice raA19 raL19 raC19], .int .i64 rb19] ∧
                            let hv98 : Heap := hset (hset hv97 h.size 0 (.int .i64 ra19)) h.size (0 + 1) (.slice raA19 raL19 raC19)
                            R (.tuple #[.agg #[.int .i64 ra19, .slice raA19 raL19 raC19], .int .i64 rb19]) hv98)
                            (callX Try.prog 135 #[.int .i64 a, .int .u64 seed] hv64 [h.size] fun v32 hv99 =>
                            ∃ ra20 : Int, ∃ (raA20 : Option Addr) (raL20 raC20 : Nat), ∃ rb20 : Int, v32 = .tuple #[.agg #[.int .i64 ra20, .slice raA20 raL20 raC20], .int .i64 rb20] ∧
                            let hv100 : Heap := hset (hset hv99 h.size 0 (.int .i64 ra20)) h.size (0 + 1) (.slice raA20 raL20 raC20)
                            R (.tuple #[.agg #[.int .i64 ra20, .slice raA20 raL20 raC20], .int .i64 rb20]) hv100))))))))))
        let hv58 : Heap := hv57.push (.cells #[.int .i64 a] 3)
        callX Try.prog 128 #[.slice (some (⟨hv57.size, 0, none⟩ : Addr)) 1 1] hv58 [h.size] fun v17 hv59 =>
        ∃ r3 : Bool, v17 = .bool r3 ∧
        cnd r3
          (let hv62 : Heap := hset (hset hv59 h.size 0 (.int .i64 0)) h.size (0 + 1) (.slice none 0 0)
          R (.tuple #[.agg #[.int .i64 0, .slice none 0 0], .int .i64 3]) hv62)
          (cnd (name.toList == (⟨#[114, 97, 110, 100, 111, 109]⟩ : ByteArray).toList)
            (let hv60 : Heap := hv59.push (.cells #[.int .i64 b] 3)
            callX Try.prog 128 #[.slice (some (⟨hv59.size, 0, none⟩ : Addr)) 1 1] hv60 [h.size] fun v18 hv61 =>
            ∃ r4 : Bool, v18 = .bool r4 ∧
            cnd r4
              (let hv63 : Heap := hset (hset hv61 h.size 0 (.int .i64 0)) h.size (0 + 1) (.slice none 0 0)
              R (.tuple #[.agg #[.int .i64 0, .slice none 0 0], .int .i64 3]) hv63)
              (K7 hv61))
            (K7 hv59)))
      cnd (decide (a < least2))
        (let hv55 : Heap := hset (hset hv54 h.size 0 (.int .i64 0)) h.size (0 + 1) (.slice none 0 0)
        R (.tuple #[.agg #[.int .i64 0, .slice none 0 0], .int .i64 1]) hv55)
        (cnd (name.toList == (⟨#[114, 97, 110, 100, 111, 109]⟩ : ByteArray).toList)
          (cnd (!(name.toList == (⟨#[114, 97, 110, 100, 111, 109]⟩ : ByteArray).toList))
            (cnd (decide (b < (1 : Int)))
              (let hv55 : Heap := hset (hset hv54 h.size 0 (.int .i64 0)) h.size (0 + 1) (.slice none 0 0)
              R (.tuple #[.agg #[.int .i64 0, .slice none 0 0], .int .i64 1]) hv55)
              (cnd (name.toList == (⟨#[114, 97, 110, 100, 111, 109]⟩ : ByteArray).toList)
                (cnd (decide (b < (0 : Int)))
                  (let hv56 : Heap := hset (hset hv54 h.size 0 (.int .i64 0)) h.size (0 + 1) (.slice none 0 0)
                  R (.tuple #[.agg #[.int .i64 0, .slice none 0 0], .int .i64 1]) hv56)
                  (K6 hv54))
                (K6 hv54)))
            (cnd (name.toList == (⟨#[114, 97, 110, 100, 111, 109]⟩ : ByteArray).toList)
              (cnd (decide (b < (0 : Int)))
                (let hv56 : Heap := hset (hset hv54 h.size 0 (.int .i64 0)) h.size (0 + 1) (.slice none 0 0)
                R (.tuple #[.agg #[.int .i64 0, .slice none 0 0], .int .i64 1]) hv56)
                (K6 hv54))
              (K6 hv54)))
          (cnd (name.toList == (⟨#[114, 97, 110, 100, 111, 109]⟩ : ByteArray).toList)
            (cnd (decide (b < (0 : Int)))
              (let hv56 : Heap := hset (hset hv54 h.size 0 (.int .i64 0)) h.size (0 + 1) (.slice none 0 0)
              R (.tuple #[.agg #[.int .i64 0, .slice none 0 0], .int .i64 1]) hv56)
              (K6 hv54))
            (K6 hv54)))))
theorem calls38 {h : Heap} {R : Value → Heap → Prop} (name : ByteArray) (a : Int) (b : Int) (seed : Int) (H : S38 name a b seed h R) : CallsH Try.prog 38 #[.string name, .int .i64 a, .int .i64 b, .int .u64 seed] h R := by
  have e : S38 name a b seed h R = FX (envX [8, 93, 141, 167, 184] 203) { loops := [(2, ⟨[1, 8], [12, 13], [8], []⟩), (4, ⟨[1, 8], [14, 15], [8], []⟩), (6, ⟨[1, 8], [16, 17], [8], []⟩), (8, ⟨[1, 8], [18, 19], [8], []⟩)], joins := [], blocks := [(0, ⟨[0, 1, 2, 3, 8, 11], [10], [], [8]⟩)], draws := [] } Try.f38 (Try.f38.body.getD .skip) [.string name, .int .i64 a, .int .i64 b, .int .u64 seed] h R := by kernel_rfl
  exact calls_of_FX (envX_ok _ _) Try.func38 (by kernel_rfl) (by kernel_rfl) (by kernel_rfl) (e ▸ H)
/-- tracery/traceryref5.Kind -/
def Ok38 (name : ByteArray) (a : Int) (b : Int) (seed : Int) (R : Int → List (Int × Int) → Int → Prop) : Prop :=
  ∀ (h : Heap), Hp h [] → CallsH Try.prog 38 #[.string name, .int .i64 a, .int .i64 b, .int .u64 seed] h fun v h' => ∃ (nV : Int) (edgesVA : Option Addr) (edgesVL edgesVC : Nat) (edgesV : List (Int × Int)) (rbV : Int), Sy h [] h' [Ck.sl eP 35 edgesVA edgesVL edgesVC edgesV] ∧ v = .tuple #[.agg #[.int .i64 nV, .slice edgesVA edgesVL edgesVC], .int .i64 rbV] ∧ R nV edgesV rbV
theorem Ok38.mono {name a b seed} {R R' : Int → List (Int × Int) → Int → Prop} (H : Ok38 name a b seed R) (kz : ∀ nV edgesV rbV, R nV edgesV rbV → R' nV edgesV rbV) : Ok38 name a b seed R' :=
  fun h  hp => (H h  hp).mono fun _ _ ⟨nV, edgesVA, edgesVL, edgesVC, edgesV, rbV, P, e, q⟩ => ⟨nV, edgesVA, edgesVL, edgesVC, edgesV, rbV, P, e, kz _ _ _ q⟩
def T38 (name : ByteArray) (a : Int) (b : Int) (seed : Int) (R : Int → List (Int × Int) → Int → Prop) : Prop :=
  cnd (name.toList == (⟨#[116, 119, 111]⟩ : ByteArray).toList)
    (∃ Jv : Int → Int → List (Int × Int) → Prop,
    ( ∃ Jv_2 : Bool → Prop,
     ( cnd (name.toList == (⟨#[112, 97, 116, 104]⟩ : ByteArray).toList)
        (Jv_2 (name.toList == (⟨#[112, 97, 116, 104]⟩ : ByteArray).toList))
        (cnd (name.toList == (⟨#[99, 121, 99, 108, 101]⟩ : ByteArray).toList)
          (Jv_2 (name.toList == (⟨#[99, 121, 99, 108, 101]⟩ : ByteArray).toList))
          (cnd (name.toList == (⟨#[99, 111, 109, 112, 108, 101, 116, 101]⟩ : ByteArray).toList)
            (Jv_2 (name.toList == (⟨#[99, 111, 109, 112, 108, 101, 116, 101]⟩ : ByteArray).toList))
            (cnd (name.toList == (⟨#[116, 119, 111]⟩ : ByteArray).toList)
              (Jv_2 (name.toList == (⟨#[116, 119, 111]⟩ : ByteArray).toList))
              (cnd (name.toList == (⟨#[103, 114, 105, 100]⟩ : ByteArray).toList)
                (Jv_2 (name.toList == (⟨#[103, 114, 105, 100]⟩ : ByteArray).toList))
                (cnd (name.toList == (⟨#[98, 111, 110, 100]⟩ : ByteArray).toList)
                  (Jv_2 (name.toList == (⟨#[98, 111, 110, 100]⟩ : ByteArray).toList))
                  (Jv_2 (name.toList == (⟨#[114, 97, 110, 100, 111, 109]⟩ : ByteArray).toList)))))))) ∧
     ∀ x : Bool, Jv_2 x →
     cnd x
       (Jv 1 0 ([] : List (Int × Int)))
       (∃ Jv_3 : Bool → Prop,
       ( cnd (name.toList == (⟨#[119, 104, 101, 101, 108]⟩ : ByteArray).toList)
          (Jv_3 (name.toList == (⟨#[119, 104, 101, 101, 108]⟩ : ByteArray).toList))
          (cnd (name.toList == (⟨#[112, 114, 105, 115, 109]⟩ : ByteArray).toList)
            (Jv_3 (name.toList == (⟨#[112, 114, 105, 115, 109]⟩ : ByteArray).toList))
            (Jv_3 (name.toList == (⟨#[115, 116, 97, 99, 107]⟩ : ByteArray).toList)))) ∧
       ∀ x2 : Bool, Jv_3 x2 →
       cnd x2
         (Jv 3 0 ([] : List (Int × Int)))
         (R 0 ([] : List (Int × Int)) 16))) ∧
    ∀ least : Int, ∀ c0 : Int, ∀ c1 : List (Int × Int), Jv least c0 c1 →
    ∃ Jv_4 : Prop,
    ( cnd (decide (a < least))
       (R 0 ([] : List (Int × Int)) 1)
       (cnd (!(name.toList == (⟨#[114, 97, 110, 100, 111, 109]⟩ : ByteArray).toList))
         (cnd (decide (b < (1 : Int)))
           (R 0 ([] : List (Int × Int)) 1)
           (cnd (name.toList == (⟨#[114, 97, 110, 100, 111, 109]⟩ : ByteArray).toList)
             (cnd (decide (b < (0 : Int)))
               (R 0 ([] : List (Int × Int)) 1)
               (Jv_4))
             (Jv_4)))
         (cnd (name.toList == (⟨#[114, 97, 110, 100, 111, 109]⟩ : ByteArray).toList)
           (cnd (decide (b < (0 : Int)))
             (R 0 ([] : List (Int × Int)) 1)
             (Jv_4))
           (Jv_4)))) ∧
    (Jv_4 →
    Ok128 ([a] : List Int) (fun r =>
    cnd r
      (R 0 ([] : List (Int × Int)) 3)
      (Ok128 ([b] : List Int) (fun r2 =>
      cnd r2
        (R 0 ([] : List (Int × Int)) 3)
        (cnd (name.toList == (⟨#[112, 97, 116, 104]⟩ : ByteArray).toList)
          (∃ (Iv : List (Int × Int) → Int → Prop) (m : List (Int × Int) → Int → Nat), Iv ([] : List (Int × Int)) 0 ∧
          ∀ l : List (Int × Int), ∀ i : Int, Iv l i →
          cnd (decide ((IntKind.i64.wrap (i + (1 : Int))) < a))
            ((l.length + 1) < 1000000000000 ∧ Iv (l ++ [(i, (IntKind.i64.wrap (i + (1 : Int))))]) (IntKind.i64.wrap (i + (1 : Int))) ∧ m (l ++ [(i, (IntKind.i64.wrap (i + (1 : Int))))]) (IntKind.i64.wrap (i + (1 : Int))) < m l i)
            (Ok129 a l (fun ra ra_2 rb =>
            R ra ra_2 rb)))
          (cnd (name.toList == (⟨#[99, 121, 99, 108, 101]⟩ : ByteArray).toList)
            (Ok130 ([] : List (Int × Int)) 0 a (fun r_2 =>
            Ok129 a r_2 (fun ra2 ra_3 rb2 =>
            R ra2 ra_3 rb2)))
            (cnd (name.toList == (⟨#[99, 111, 109, 112, 108, 101, 116, 101]⟩ : ByteArray).toList)
              (Ok131 a (fun ra3 ra_4 rb3 =>
              R ra3 ra_4 rb3))
              (cnd (name.toList == (⟨#[116, 119, 111]⟩ : ByteArray).toList)
                (Ok132 a b (fun ra4 ra_5 rb4 =>
                R ra4 ra_5 rb4))
                (cnd (name.toList == (⟨#[103, 114, 105, 100]⟩ : ByteArray).toList)
                  (Ok133 a b (fun ra5 ra_6 rb5 =>
                  R ra5 ra_6 rb5))
                  (cnd (name.toList == (⟨#[119, 104, 101, 101, 108]⟩ : ByteArray).toList)
                    (Ok130 ([] : List (Int × Int)) 0 a (fun r_3 =>
                    ∃ (Iv2 : List (Int × Int) → Int → Prop) (m2 : List (Int × Int) → Int → Nat), Iv2 r_3 0 ∧
                    ∀ l_2 : List (Int × Int), ∀ i2 : Int, Iv2 l_2 i2 →
                    cnd (decide (i2 < a))
                      ((l_2.length + 1) < 1000000000000 ∧ Iv2 (l_2 ++ [(a, i2)]) (IntKind.i64.wrap (i2 + (1 : Int))) ∧ m2 (l_2 ++ [(a, i2)]) (IntKind.i64.wrap (i2 + (1 : Int))) < m2 l_2 i2)
                      (Ok129 (IntKind.i64.wrap (a + (1 : Int))) l_2 (fun ra6 ra_7 rb6 =>
                      R ra6 ra_7 rb6))))
                    (cnd (name.toList == (⟨#[112, 114, 105, 115, 109]⟩ : ByteArray).toList)
                      (Ok130 ([] : List (Int × Int)) 0 a (fun r_4 =>
                      Ok130 r_4 a a (fun r_5 =>
                      ∃ (Iv3 : List (Int × Int) → Int → Prop) (m3 : List (Int × Int) → Int → Nat), Iv3 r_5 0 ∧
                      ∀ l_3 : List (Int × Int), ∀ i3 : Int, Iv3 l_3 i3 →
                      cnd (decide (i3 < a))
                        ((l_3.length + 1) < 1000000000000 ∧ Iv3 (l_3 ++ [(i3, (IntKind.i64.wrap (a + i3)))]) (IntKind.i64.wrap (i3 + (1 : Int))) ∧ m3 (l_3 ++ [(i3, (IntKind.i64.wrap (a + i3)))]) (IntKind.i64.wrap (i3 + (1 : Int))) < m3 l_3 i3)
                        (Ok129 (IntKind.i64.wrap ((2 : Int) * a)) l_3 (fun ra7 ra_8 rb7 =>
                        R ra7 ra_8 rb7)))))
                      (cnd (name.toList == (⟨#[98, 111, 110, 100]⟩ : ByteArray).toList)
                        (∃ (Iv4 : List (Int × Int) → Int → Prop) (m4 : List (Int × Int) → Int → Nat), Iv4 ([] : List (Int × Int)) 0 ∧
                        ∀ l_4 : List (Int × Int), ∀ i4 : Int, Iv4 l_4 i4 →
                        cnd (decide (i4 < a))
                          ((l_4.length + 1) < 1000000000000 ∧ Iv4 (l_4 ++ [(0, 1)]) (IntKind.i64.wrap (i4 + (1 : Int))) ∧ m4 (l_4 ++ [(0, 1)]) (IntKind.i64.wrap (i4 + (1 : Int))) < m4 l_4 i4)
                          (Ok129 2 l_4 (fun ra8 ra_9 rb8 =>
                          R ra8 ra_9 rb8)))
                        (cnd (name.toList == (⟨#[114, 97, 110, 100, 111, 109]⟩ : ByteArray).toList)
                          (Ok134 a b seed (fun ra9 ra_10 rb9 =>
                          R ra9 ra_10 rb9))
                          (Ok135 a seed (fun ra10 ra_11 rb10 =>
                          R ra10 ra_11 rb10))))))))))))))))
    (cnd (name.toList == (⟨#[103, 114, 105, 100]⟩ : ByteArray).toList)
      (∃ Jv : Int → Int → List (Int × Int) → Prop,
      ( ∃ Jv_5 : Bool → Prop,
       ( cnd (name.toList == (⟨#[112, 97, 116, 104]⟩ : ByteArray).toList)
          (Jv_5 (name.toList == (⟨#[112, 97, 116, 104]⟩ : ByteArray).toList))
          (cnd (name.toList == (⟨#[99, 121, 99, 108, 101]⟩ : ByteArray).toList)
            (Jv_5 (name.toList == (⟨#[99, 121, 99, 108, 101]⟩ : ByteArray).toList))
            (cnd (name.toList == (⟨#[99, 111, 109, 112, 108, 101, 116, 101]⟩ : ByteArray).toList)
              (Jv_5 (name.toList == (⟨#[99, 111, 109, 112, 108, 101, 116, 101]⟩ : ByteArray).toList))
              (cnd (name.toList == (⟨#[116, 119, 111]⟩ : ByteArray).toList)
                (Jv_5 (name.toList == (⟨#[116, 119, 111]⟩ : ByteArray).toList))
                (cnd (name.toList == (⟨#[103, 114, 105, 100]⟩ : ByteArray).toList)
                  (Jv_5 (name.toList == (⟨#[103, 114, 105, 100]⟩ : ByteArray).toList))
                  (cnd (name.toList == (⟨#[98, 111, 110, 100]⟩ : ByteArray).toList)
                    (Jv_5 (name.toList == (⟨#[98, 111, 110, 100]⟩ : ByteArray).toList))
                    (Jv_5 (name.toList == (⟨#[114, 97, 110, 100, 111, 109]⟩ : ByteArray).toList)))))))) ∧
       ∀ x : Bool, Jv_5 x →
       cnd x
         (Jv 1 0 ([] : List (Int × Int)))
         (∃ Jv_6 : Bool → Prop,
         ( cnd (name.toList == (⟨#[119, 104, 101, 101, 108]⟩ : ByteArray).toList)
            (Jv_6 (name.toList == (⟨#[119, 104, 101, 101, 108]⟩ : ByteArray).toList))
            (cnd (name.toList == (⟨#[112, 114, 105, 115, 109]⟩ : ByteArray).toList)
              (Jv_6 (name.toList == (⟨#[112, 114, 105, 115, 109]⟩ : ByteArray).toList))
              (Jv_6 (name.toList == (⟨#[115, 116, 97, 99, 107]⟩ : ByteArray).toList)))) ∧
         ∀ x2 : Bool, Jv_6 x2 →
         cnd x2
           (Jv 3 0 ([] : List (Int × Int)))
           (R 0 ([] : List (Int × Int)) 16))) ∧
      ∀ least : Int, ∀ c0 : Int, ∀ c1_2 : List (Int × Int), Jv least c0 c1_2 →
      ∃ Jv_7 : Prop,
      ( cnd (decide (a < least))
         (R 0 ([] : List (Int × Int)) 1)
         (cnd (!(name.toList == (⟨#[114, 97, 110, 100, 111, 109]⟩ : ByteArray).toList))
           (cnd (decide (b < (1 : Int)))
             (R 0 ([] : List (Int × Int)) 1)
             (cnd (name.toList == (⟨#[114, 97, 110, 100, 111, 109]⟩ : ByteArray).toList)
               (cnd (decide (b < (0 : Int)))
                 (R 0 ([] : List (Int × Int)) 1)
                 (Jv_7))
               (Jv_7)))
           (cnd (name.toList == (⟨#[114, 97, 110, 100, 111, 109]⟩ : ByteArray).toList)
             (cnd (decide (b < (0 : Int)))
               (R 0 ([] : List (Int × Int)) 1)
               (Jv_7))
             (Jv_7)))) ∧
      (Jv_7 →
      Ok128 ([a] : List Int) (fun r =>
      cnd r
        (R 0 ([] : List (Int × Int)) 3)
        (Ok128 ([b] : List Int) (fun r2 =>
        cnd r2
          (R 0 ([] : List (Int × Int)) 3)
          (cnd (name.toList == (⟨#[112, 97, 116, 104]⟩ : ByteArray).toList)
            (∃ (Iv : List (Int × Int) → Int → Prop) (m : List (Int × Int) → Int → Nat), Iv ([] : List (Int × Int)) 0 ∧
            ∀ l_5 : List (Int × Int), ∀ i : Int, Iv l_5 i →
            cnd (decide ((IntKind.i64.wrap (i + (1 : Int))) < a))
              ((l_5.length + 1) < 1000000000000 ∧ Iv (l_5 ++ [(i, (IntKind.i64.wrap (i + (1 : Int))))]) (IntKind.i64.wrap (i + (1 : Int))) ∧ m (l_5 ++ [(i, (IntKind.i64.wrap (i + (1 : Int))))]) (IntKind.i64.wrap (i + (1 : Int))) < m l_5 i)
              (Ok129 a l_5 (fun ra ra_12 rb =>
              R ra ra_12 rb)))
            (cnd (name.toList == (⟨#[99, 121, 99, 108, 101]⟩ : ByteArray).toList)
              (Ok130 ([] : List (Int × Int)) 0 a (fun r_6 =>
              Ok129 a r_6 (fun ra2 ra_13 rb2 =>
              R ra2 ra_13 rb2)))
              (cnd (name.toList == (⟨#[99, 111, 109, 112, 108, 101, 116, 101]⟩ : ByteArray).toList)
                (Ok131 a (fun ra3 ra_14 rb3 =>
                R ra3 ra_14 rb3))
                (cnd (name.toList == (⟨#[116, 119, 111]⟩ : ByteArray).toList)
                  (Ok132 a b (fun ra4 ra_15 rb4 =>
                  R ra4 ra_15 rb4))
                  (cnd (name.toList == (⟨#[103, 114, 105, 100]⟩ : ByteArray).toList)
                    (Ok133 a b (fun ra5 ra_16 rb5 =>
                    R ra5 ra_16 rb5))
                    (cnd (name.toList == (⟨#[119, 104, 101, 101, 108]⟩ : ByteArray).toList)
                      (Ok130 ([] : List (Int × Int)) 0 a (fun r_7 =>
                      ∃ (Iv2 : List (Int × Int) → Int → Prop) (m2 : List (Int × Int) → Int → Nat), Iv2 r_7 0 ∧
                      ∀ l_6 : List (Int × Int), ∀ i2 : Int, Iv2 l_6 i2 →
                      cnd (decide (i2 < a))
                        ((l_6.length + 1) < 1000000000000 ∧ Iv2 (l_6 ++ [(a, i2)]) (IntKind.i64.wrap (i2 + (1 : Int))) ∧ m2 (l_6 ++ [(a, i2)]) (IntKind.i64.wrap (i2 + (1 : Int))) < m2 l_6 i2)
                        (Ok129 (IntKind.i64.wrap (a + (1 : Int))) l_6 (fun ra6 ra_17 rb6 =>
                        R ra6 ra_17 rb6))))
                      (cnd (name.toList == (⟨#[112, 114, 105, 115, 109]⟩ : ByteArray).toList)
                        (Ok130 ([] : List (Int × Int)) 0 a (fun r_8 =>
                        Ok130 r_8 a a (fun r_9 =>
                        ∃ (Iv3 : List (Int × Int) → Int → Prop) (m3 : List (Int × Int) → Int → Nat), Iv3 r_9 0 ∧
                        ∀ l_7 : List (Int × Int), ∀ i3 : Int, Iv3 l_7 i3 →
                        cnd (decide (i3 < a))
                          ((l_7.length + 1) < 1000000000000 ∧ Iv3 (l_7 ++ [(i3, (IntKind.i64.wrap (a + i3)))]) (IntKind.i64.wrap (i3 + (1 : Int))) ∧ m3 (l_7 ++ [(i3, (IntKind.i64.wrap (a + i3)))]) (IntKind.i64.wrap (i3 + (1 : Int))) < m3 l_7 i3)
                          (Ok129 (IntKind.i64.wrap ((2 : Int) * a)) l_7 (fun ra7 ra_18 rb7 =>
                          R ra7 ra_18 rb7)))))
                        (cnd (name.toList == (⟨#[98, 111, 110, 100]⟩ : ByteArray).toList)
                          (∃ (Iv4 : List (Int × Int) → Int → Prop) (m4 : List (Int × Int) → Int → Nat), Iv4 ([] : List (Int × Int)) 0 ∧
                          ∀ l_8 : List (Int × Int), ∀ i4 : Int, Iv4 l_8 i4 →
                          cnd (decide (i4 < a))
                            ((l_8.length + 1) < 1000000000000 ∧ Iv4 (l_8 ++ [(0, 1)]) (IntKind.i64.wrap (i4 + (1 : Int))) ∧ m4 (l_8 ++ [(0, 1)]) (IntKind.i64.wrap (i4 + (1 : Int))) < m4 l_8 i4)
                            (Ok129 2 l_8 (fun ra8 ra_19 rb8 =>
                            R ra8 ra_19 rb8)))
                          (cnd (name.toList == (⟨#[114, 97, 110, 100, 111, 109]⟩ : ByteArray).toList)
                            (Ok134 a b seed (fun ra9 ra_20 rb9 =>
                            R ra9 ra_20 rb9))
                            (Ok135 a seed (fun ra10 ra_21 rb10 =>
                            R ra10 ra_21 rb10))))))))))))))))
      (∃ Jv2 : Int → Int → List (Int × Int) → Prop,
      ( ∃ Jv_8 : Bool → Prop,
       ( cnd (name.toList == (⟨#[112, 97, 116, 104]⟩ : ByteArray).toList)
          (Jv_8 (name.toList == (⟨#[112, 97, 116, 104]⟩ : ByteArray).toList))
          (cnd (name.toList == (⟨#[99, 121, 99, 108, 101]⟩ : ByteArray).toList)
            (Jv_8 (name.toList == (⟨#[99, 121, 99, 108, 101]⟩ : ByteArray).toList))
            (cnd (name.toList == (⟨#[99, 111, 109, 112, 108, 101, 116, 101]⟩ : ByteArray).toList)
              (Jv_8 (name.toList == (⟨#[99, 111, 109, 112, 108, 101, 116, 101]⟩ : ByteArray).toList))
              (cnd (name.toList == (⟨#[116, 119, 111]⟩ : ByteArray).toList)
                (Jv_8 (name.toList == (⟨#[116, 119, 111]⟩ : ByteArray).toList))
                (cnd (name.toList == (⟨#[103, 114, 105, 100]⟩ : ByteArray).toList)
                  (Jv_8 (name.toList == (⟨#[103, 114, 105, 100]⟩ : ByteArray).toList))
                  (cnd (name.toList == (⟨#[98, 111, 110, 100]⟩ : ByteArray).toList)
                    (Jv_8 (name.toList == (⟨#[98, 111, 110, 100]⟩ : ByteArray).toList))
                    (Jv_8 (name.toList == (⟨#[114, 97, 110, 100, 111, 109]⟩ : ByteArray).toList)))))))) ∧
       ∀ x3 : Bool, Jv_8 x3 →
       cnd x3
         (Jv2 1 0 ([] : List (Int × Int)))
         (∃ Jv_9 : Bool → Prop,
         ( cnd (name.toList == (⟨#[119, 104, 101, 101, 108]⟩ : ByteArray).toList)
            (Jv_9 (name.toList == (⟨#[119, 104, 101, 101, 108]⟩ : ByteArray).toList))
            (cnd (name.toList == (⟨#[112, 114, 105, 115, 109]⟩ : ByteArray).toList)
              (Jv_9 (name.toList == (⟨#[112, 114, 105, 115, 109]⟩ : ByteArray).toList))
              (Jv_9 (name.toList == (⟨#[115, 116, 97, 99, 107]⟩ : ByteArray).toList)))) ∧
         ∀ x4 : Bool, Jv_9 x4 →
         cnd x4
           (Jv2 3 0 ([] : List (Int × Int)))
           (R 0 ([] : List (Int × Int)) 16))) ∧
      ∀ least2 : Int, ∀ c0_2 : Int, ∀ c1_3 : List (Int × Int), Jv2 least2 c0_2 c1_3 →
      ∃ Jv_10 : Prop,
      ( cnd (decide (a < least2))
         (R 0 ([] : List (Int × Int)) 1)
         (cnd (name.toList == (⟨#[114, 97, 110, 100, 111, 109]⟩ : ByteArray).toList)
           (cnd (!(name.toList == (⟨#[114, 97, 110, 100, 111, 109]⟩ : ByteArray).toList))
             (cnd (decide (b < (1 : Int)))
               (R 0 ([] : List (Int × Int)) 1)
               (cnd (name.toList == (⟨#[114, 97, 110, 100, 111, 109]⟩ : ByteArray).toList)
                 (cnd (decide (b < (0 : Int)))
                   (R 0 ([] : List (Int × Int)) 1)
                   (Jv_10))
                 (Jv_10)))
             (cnd (name.toList == (⟨#[114, 97, 110, 100, 111, 109]⟩ : ByteArray).toList)
               (cnd (decide (b < (0 : Int)))
                 (R 0 ([] : List (Int × Int)) 1)
                 (Jv_10))
               (Jv_10)))
           (cnd (name.toList == (⟨#[114, 97, 110, 100, 111, 109]⟩ : ByteArray).toList)
             (cnd (decide (b < (0 : Int)))
               (R 0 ([] : List (Int × Int)) 1)
               (Jv_10))
             (Jv_10)))) ∧
      (Jv_10 →
      ∃ Jv_11 : Prop,
      ( Ok128 ([a] : List Int) (fun r3 =>
       cnd r3
         (R 0 ([] : List (Int × Int)) 3)
         (cnd (name.toList == (⟨#[114, 97, 110, 100, 111, 109]⟩ : ByteArray).toList)
           (Ok128 ([b] : List Int) (fun r4 =>
           cnd r4
             (R 0 ([] : List (Int × Int)) 3)
             (Jv_11)))
           (Jv_11)))) ∧
      (Jv_11 →
      cnd (name.toList == (⟨#[112, 97, 116, 104]⟩ : ByteArray).toList)
        (∃ (Iv5 : List (Int × Int) → Int → Prop) (m5 : List (Int × Int) → Int → Nat), Iv5 ([] : List (Int × Int)) 0 ∧
        ∀ l_9 : List (Int × Int), ∀ i5 : Int, Iv5 l_9 i5 →
        cnd (decide ((IntKind.i64.wrap (i5 + (1 : Int))) < a))
          ((l_9.length + 1) < 1000000000000 ∧ Iv5 (l_9 ++ [(i5, (IntKind.i64.wrap (i5 + (1 : Int))))]) (IntKind.i64.wrap (i5 + (1 : Int))) ∧ m5 (l_9 ++ [(i5, (IntKind.i64.wrap (i5 + (1 : Int))))]) (IntKind.i64.wrap (i5 + (1 : Int))) < m5 l_9 i5)
          (Ok129 a l_9 (fun ra11 ra_22 rb11 =>
          R ra11 ra_22 rb11)))
        (cnd (name.toList == (⟨#[99, 121, 99, 108, 101]⟩ : ByteArray).toList)
          (Ok130 ([] : List (Int × Int)) 0 a (fun r_10 =>
          Ok129 a r_10 (fun ra12 ra_23 rb12 =>
          R ra12 ra_23 rb12)))
          (cnd (name.toList == (⟨#[99, 111, 109, 112, 108, 101, 116, 101]⟩ : ByteArray).toList)
            (Ok131 a (fun ra13 ra_24 rb13 =>
            R ra13 ra_24 rb13))
            (cnd (name.toList == (⟨#[116, 119, 111]⟩ : ByteArray).toList)
              (Ok132 a b (fun ra14 ra_25 rb14 =>
              R ra14 ra_25 rb14))
              (cnd (name.toList == (⟨#[103, 114, 105, 100]⟩ : ByteArray).toList)
                (Ok133 a b (fun ra15 ra_26 rb15 =>
                R ra15 ra_26 rb15))
                (cnd (name.toList == (⟨#[119, 104, 101, 101, 108]⟩ : ByteArray).toList)
                  (Ok130 ([] : List (Int × Int)) 0 a (fun r_11 =>
                  ∃ (Iv6 : List (Int × Int) → Int → Prop) (m6 : List (Int × Int) → Int → Nat), Iv6 r_11 0 ∧
                  ∀ l_10 : List (Int × Int), ∀ i6 : Int, Iv6 l_10 i6 →
                  cnd (decide (i6 < a))
                    ((l_10.length + 1) < 1000000000000 ∧ Iv6 (l_10 ++ [(a, i6)]) (IntKind.i64.wrap (i6 + (1 : Int))) ∧ m6 (l_10 ++ [(a, i6)]) (IntKind.i64.wrap (i6 + (1 : Int))) < m6 l_10 i6)
                    (Ok129 (IntKind.i64.wrap (a + (1 : Int))) l_10 (fun ra16 ra_27 rb16 =>
                    R ra16 ra_27 rb16))))
                  (cnd (name.toList == (⟨#[112, 114, 105, 115, 109]⟩ : ByteArray).toList)
                    (Ok130 ([] : List (Int × Int)) 0 a (fun r_12 =>
                    Ok130 r_12 a a (fun r_13 =>
                    ∃ (Iv7 : List (Int × Int) → Int → Prop) (m7 : List (Int × Int) → Int → Nat), Iv7 r_13 0 ∧
                    ∀ l_11 : List (Int × Int), ∀ i7 : Int, Iv7 l_11 i7 →
                    cnd (decide (i7 < a))
                      ((l_11.length + 1) < 1000000000000 ∧ Iv7 (l_11 ++ [(i7, (IntKind.i64.wrap (a + i7)))]) (IntKind.i64.wrap (i7 + (1 : Int))) ∧ m7 (l_11 ++ [(i7, (IntKind.i64.wrap (a + i7)))]) (IntKind.i64.wrap (i7 + (1 : Int))) < m7 l_11 i7)
                      (Ok129 (IntKind.i64.wrap ((2 : Int) * a)) l_11 (fun ra17 ra_28 rb17 =>
                      R ra17 ra_28 rb17)))))
                    (cnd (name.toList == (⟨#[98, 111, 110, 100]⟩ : ByteArray).toList)
                      (∃ (Iv8 : List (Int × Int) → Int → Prop) (m8 : List (Int × Int) → Int → Nat), Iv8 ([] : List (Int × Int)) 0 ∧
                      ∀ l_12 : List (Int × Int), ∀ i8 : Int, Iv8 l_12 i8 →
                      cnd (decide (i8 < a))
                        ((l_12.length + 1) < 1000000000000 ∧ Iv8 (l_12 ++ [(0, 1)]) (IntKind.i64.wrap (i8 + (1 : Int))) ∧ m8 (l_12 ++ [(0, 1)]) (IntKind.i64.wrap (i8 + (1 : Int))) < m8 l_12 i8)
                        (Ok129 2 l_12 (fun ra18 ra_29 rb18 =>
                        R ra18 ra_29 rb18)))
                      (cnd (name.toList == (⟨#[114, 97, 110, 100, 111, 109]⟩ : ByteArray).toList)
                        (Ok134 a b seed (fun ra19 ra_30 rb19 =>
                        R ra19 ra_30 rb19))
                        (Ok135 a seed (fun ra20 ra_31 rb20 =>
                        R ra20 ra_31 rb20))))))))))))))
theorem ok38 {name a b seed} {R : Int → List (Int × Int) → Int → Prop} (T : T38 name a b seed R) : Ok38 name a b seed R := by
  intro h  H
  have Y : Sy h [] h _ := Sy.startM H rfl
  apply calls38
  unfold S38
  unfold T38 at T
  intro hv
  have Y : Sy _ _ hv [_] := Y.junk _
  clear_value hv
  refine cnd_imp T (fun T => ?_) (fun T => ?_)
  · obtain ⟨Jv, T0, T1⟩ := T
    obtain ⟨B, hB, _⟩ := Y.cut [] [0] rfl
    refine ⟨fun lz h' => ∃ (least : Int) (c0 : Int) (c1A : Option Addr) (c1L c1C : Nat) (c1 : List (Int × Int)), lz = [.int .i64 least, .int .i64 c0, .slice c1A c1L c1C] ∧ Sy h [] h' ([Ck.sl eP 35 c1A c1L c1C c1] ++ B) ∧ Jv least c0 c1, ?_, ?_⟩
    · subst hB
      replace T := T0
      clear T0 T1
      obtain ⟨Jv_2, T0, T1⟩ := T
      obtain ⟨B_2, hB_2, _⟩ := Y.cut [] [0] rfl
      intro K
      have hK : ∀ (x : Bool) (hv2 : Heap), (Sy h [] hv2 ([] ++ B_2) ∧ Jv_2 x) → K x hv2 := by
        subst hB_2
        clear T0 Y
        rintro x hv2 ⟨Y, T⟩
        replace T := T1 x T
        have Y : Sy _ _ _ [_] := Y
        unfold K
        refine cnd_imp T (fun T => ?_) (fun T => ?_)
        · have Y : Sy _ _ _ [_, _] := Y.nilS eP 35
          exact ⟨_, _, _, _, _, _, rfl, Y.pick [1, 0] rfl, T⟩
        · obtain ⟨Jv_3, T0, T1⟩ := T
          obtain ⟨B_3, hB_3, _⟩ := Y.cut [] [0] rfl
          intro K2
          have hK2 : ∀ (x2 : Bool) (hv3 : Heap), (Sy h [] hv3 ([] ++ B_3) ∧ Jv_3 x2) → K2 x2 hv3 := by
            subst hB_3
            clear T0 Y
            rintro x2 hv3 ⟨Y, T⟩
            replace T := T1 x2 T
            have Y : Sy _ _ _ [_] := Y
            unfold K2
            refine cnd_imp T (fun T => ?_) (fun T => ?_)
            · have Y : Sy _ _ _ [_, _] := Y.nilS eP 35
              exact ⟨_, _, _, _, _, _, rfl, Y.pick [1, 0] rfl, T⟩
            · intro hv4
              have Y : Sy _ _ hv4 [_] := ((Y.stJ 0 rfl _ _).stJ 0 rfl _ _)
              clear_value hv4
              have Y : Sy _ _ _ [_, _] := Y.nilS eP 35
              exact ⟨_, _, _, _, _, _, Y.pick [1] rfl, rfl, T⟩
          subst hB_3
          replace T := T0
          clear T0 T1
          refine cnd_imp T (fun T => ?_) (fun T => ?_)
          · exact hK2 _ _ ⟨Y.pick [0] rfl, T⟩
          · refine cnd_imp T (fun T => ?_) (fun T => ?_)
            · exact hK2 _ _ ⟨Y.pick [0] rfl, T⟩
            · exact hK2 _ _ ⟨Y.pick [0] rfl, T⟩
      subst hB_2
      replace T := T0
      clear T0 T1
      refine cnd_imp T (fun T => ?_) (fun T => ?_)
      · exact hK _ _ ⟨Y.pick [0] rfl, T⟩
      · refine cnd_imp T (fun T => ?_) (fun T => ?_)
        · exact hK _ _ ⟨Y.pick [0] rfl, T⟩
        · refine cnd_imp T (fun T => ?_) (fun T => ?_)
          · exact hK _ _ ⟨Y.pick [0] rfl, T⟩
          · refine cnd_imp T (fun T => ?_) (fun T => ?_)
            · exact hK _ _ ⟨Y.pick [0] rfl, T⟩
            · refine cnd_imp T (fun T => ?_) (fun T => ?_)
              · exact hK _ _ ⟨Y.pick [0] rfl, T⟩
              · refine cnd_imp T (fun T => ?_) (fun T => ?_)
                · exact hK _ _ ⟨Y.pick [0] rfl, T⟩
                · exact hK _ _ ⟨Y.pick [0] rfl, T⟩
    · subst hB
      clear T0 Y
      rintro least c0 c1A c1L c1C hv5 ⟨least, c0, c1A, c1L, c1C, c1, e, Y, T⟩
      cases e
      obtain rfl := Y.lenS 0 rfl
      replace T := T1 least c0 c1 T
      have Y : Sy _ _ _ [_, _] := Y
      obtain ⟨Jv_4, T0, T1⟩ := T
      obtain ⟨B_4, hB_4, _⟩ := Y.cut [] [0, 1] rfl
      intro K3
      have hK3 : ∀  (hv8 : Heap), (Sy h [] hv8 ([] ++ B_4) ∧ Jv_4) → K3 hv8 := by
        subst hB_4
        clear T0 Y
        rintro hv8 ⟨Y, T⟩
        replace T := T1 T
        have Y : Sy _ _ _ [_, _] := Y
        unfold K3
        intro hv9
        have Y : Sy _ _ hv9 [_, _, _] := Y.litS (E := eI) (ty := 3) ([a] : List Int) rfl (by simp [maxLen])
        clear_value hv9
        refine callX_sy (T _ _ _ _ ((Y.turn 2 rfl To.slvw).pick [2] rfl).hp) (fun _ _ ⟨_, p, _⟩ => p.fr) (allc (fun h => by cases h) alln) ?_
        rintro v hv10 ⟨r, PP, rfl, T⟩
        have Y : Sy _ _ hv10 [_, _, _] := Y.gr PP.fr
        clear PP
        refine ⟨r, rfl, ?_⟩
        refine cnd_imp T (fun T => ?_) (fun T => ?_)
        · intro hv13
          have Y : Sy _ _ hv13 [_, _, _] := ((Y.stJ 1 rfl _ _).stJ 1 rfl _ _)
          clear_value hv13
          have Y : Sy _ _ _ [_, _, _, _] := Y.nilS eP 35
          exact ⟨_, _, _, _, _, _, Y.pick [3] rfl, rfl, T⟩
        · intro hv11
          have Y : Sy _ _ hv11 [_, _, _, _] := Y.litS (E := eI) (ty := 3) ([b] : List Int) rfl (by simp [maxLen])
          clear_value hv11
          refine callX_sy (T _ _ _ _ ((Y.turn 3 rfl To.slvw).pick [3] rfl).hp) (fun _ _ ⟨_, p, _⟩ => p.fr) (allc (fun h => by cases h) alln) ?_
          rintro v2 hv12 ⟨r2, PP, rfl, T⟩
          have Y : Sy _ _ hv12 [_, _, _, _] := Y.gr PP.fr
          clear PP
          refine ⟨r2, rfl, ?_⟩
          refine cnd_imp T (fun T => ?_) (fun T => ?_)
          · intro hv14
            have Y : Sy _ _ hv14 [_, _, _, _] := ((Y.stJ 1 rfl _ _).stJ 1 rfl _ _)
            clear_value hv14
            have Y : Sy _ _ _ [_, _, _, _, _] := Y.nilS eP 35
            exact ⟨_, _, _, _, _, _, Y.pick [4] rfl, rfl, T⟩
          · refine cnd_imp T (fun T => ?_) (fun T => ?_)
            · have Y : Sy _ _ _ [_, _, _, _, _] := Y.nilS eP 35
              obtain ⟨Iv, m, T0, T1⟩ := T
              obtain ⟨B_5, hB_5, YB⟩ := Y.cut [4] [0, 1, 2, 3] rfl
              obtain ⟨JJ, hJJ⟩ : ∃ JJ : Nat → List Value → Heap → Prop, JJ = (fun k lz h' => ∃ (lA : Option Addr) (lL lC : Nat) (l : List (Int × Int)) (i : Int), lz = [.slice lA lL lC, .int .i64 i] ∧ Sy h [] h' ([Ck.sl eP 35 lA lL lC l] ++ B_5) ∧ Iv l i ∧ m l i = k) := ⟨_, rfl⟩
              refine ⟨fun lz h' => ∃ k, JJ k lz h', Lm JJ, ?_, ?_⟩
              · subst hJJ hB_5
                exact ⟨_, _, _, _, _, _, rfl, YB, T0, rfl⟩
              · clear YB T0 Y
                intro lA lL lC i hv15 hI
                obtain ⟨k, hI, hm⟩ := loopIn hI
                subst hJJ hB_5
                obtain ⟨lA, lL, lC, l, i, e, Y, T, rfl⟩ := hI
                cases e
                obtain rfl := Y.lenS 0 rfl
                replace T := T1 l i T
                have Y : Sy _ _ _ [_, _, _, _, _] := Y
                refine cnd_imp T (fun T => ?_) (fun T => ?_)
                · intro hv16
                  have Y : Sy _ _ hv16 [_, _, _, _, _, _] := Y.junk _
                  clear_value hv16
                  obtain ⟨q, T⟩ := T
                  refine ⟨_, Y.ownS 0 rfl, (allc (Y.nJ 0 5 rfl rfl rfl) (allc (Y.nJ 0 2 rfl rfl rfl) alln)), by first | exact appB q (by decide) | omega, by first | exact appM q | (simp [maxLen]; omega), ?_⟩
                  intro sA sC hv17 ow fA gA gB
                  have Y : Sy _ _ hv17 [_, _, _, _, _, _] := Y.appS 0 rfl ([(i, (IntKind.i64.wrap (i + (1 : Int))))] : List (Int × Int)) ow fA gA rfl rfl
                  exact loopBack hm ⟨_, _, _, _, _, rfl, Y.pick [0, 1, 2, 3, 4] rfl, T.1, rfl⟩ T.2
                · refine callX_sy (T _ _ _ _ (Y.pick [0] rfl).hp) (fun _ _ ⟨_, _, _, _, _, _, p, _⟩ => p.fr) (allc (Y.nO 2 [0] rfl rfl) alln) ?_
                  rintro v3 hv18 ⟨ra, raA, raL, raC, ra_2, rb, PP, rfl, T⟩
                  have Y : Sy _ _ hv18 [_, _, _, _, _] := Y.call2 [0, 1, 2, 3, 4] rfl (A := [_]) rfl rfl PP ⟨rfl, trivial⟩
                  clear PP
                  obtain rfl := Y.lenS 0 rfl
                  refine ⟨ra, _, _, _, rb, rfl, ?_⟩
                  intro hv19
                  have Y : Sy _ _ hv19 [_, _, _, _, _] := ((Y.stJ 2 rfl _ _).stJ 2 rfl _ _)
                  clear_value hv19
                  exact ⟨_, _, _, _, _, _, Y.pick [0] rfl, rfl, T⟩
            · refine cnd_imp T (fun T => ?_) (fun T => ?_)
              · have Y : Sy _ _ _ [_, _, _, _, _] := Y.nilS eP 35
                refine callX_sy (T _ _ _ _ (Y.pick [4] rfl).hp) (fun _ _ ⟨_, _, _, _, p, _⟩ => p.fr) (allc (Y.nO 1 [4] rfl rfl) alln) ?_
                rintro v4 hv20 ⟨rA, rL, rC, r_2, PP, rfl, T⟩
                have Y : Sy _ _ hv20 [_, _, _, _, _] := Y.call2 [4, 0, 1, 2, 3] rfl (A := [_]) rfl rfl PP ⟨rfl, trivial⟩
                clear PP
                obtain rfl := Y.lenS 0 rfl
                refine ⟨_, _, _, rfl, ?_⟩
                refine callX_sy (T _ _ _ _ (Y.pick [0] rfl).hp) (fun _ _ ⟨_, _, _, _, _, _, p, _⟩ => p.fr) (allc (Y.nO 2 [0] rfl rfl) alln) ?_
                rintro v5 hv21 ⟨ra2, raA2, raL2, raC2, ra_3, rb2, PP, rfl, T⟩
                have Y : Sy _ _ hv21 [_, _, _, _, _] := Y.call2 [0, 1, 2, 3, 4] rfl (A := [_]) rfl rfl PP ⟨rfl, trivial⟩
                clear PP
                obtain rfl := Y.lenS 0 rfl
                refine ⟨ra2, _, _, _, rb2, rfl, ?_⟩
                intro hv22
                have Y : Sy _ _ hv22 [_, _, _, _, _] := ((Y.stJ 2 rfl _ _).stJ 2 rfl _ _)
                clear_value hv22
                exact ⟨_, _, _, _, _, _, Y.pick [0] rfl, rfl, T⟩
              · refine cnd_imp T (fun T => ?_) (fun T => ?_)
                · refine callX_sy (T _ (Hp.nil _)) (fun _ _ ⟨_, _, _, _, _, _, p, _⟩ => p.fr) (allc (fun h => by cases h) alln) ?_
                  rintro v6 hv23 ⟨ra3, raA3, raL3, raC3, ra_4, rb3, PP, rfl, T⟩
                  have Y : Sy _ _ hv23 [_, _, _, _, _] := Y.callV PP ⟨rfl, trivial⟩
                  clear PP
                  obtain rfl := Y.lenS 4 rfl
                  refine ⟨ra3, _, _, _, rb3, rfl, ?_⟩
                  intro hv24
                  have Y : Sy _ _ hv24 [_, _, _, _, _] := ((Y.stJ 1 rfl _ _).stJ 1 rfl _ _)
                  clear_value hv24
                  exact ⟨_, _, _, _, _, _, Y.pick [4] rfl, rfl, T⟩
                · refine cnd_imp T (fun T => ?_) (fun T => ?_)
                  · refine callX_sy (T _ (Hp.nil _)) (fun _ _ ⟨_, _, _, _, _, _, p, _⟩ => p.fr) (allc (fun h => by cases h) alln) ?_
                    rintro v7 hv25 ⟨ra4, raA4, raL4, raC4, ra_5, rb4, PP, rfl, T⟩
                    have Y : Sy _ _ hv25 [_, _, _, _, _] := Y.callV PP ⟨rfl, trivial⟩
                    clear PP
                    obtain rfl := Y.lenS 4 rfl
                    refine ⟨ra4, _, _, _, rb4, rfl, ?_⟩
                    intro hv26
                    have Y : Sy _ _ hv26 [_, _, _, _, _] := ((Y.stJ 1 rfl _ _).stJ 1 rfl _ _)
                    clear_value hv26
                    exact ⟨_, _, _, _, _, _, Y.pick [4] rfl, rfl, T⟩
                  · refine cnd_imp T (fun T => ?_) (fun T => ?_)
                    · refine callX_sy (T _ (Hp.nil _)) (fun _ _ ⟨_, _, _, _, _, _, p, _⟩ => p.fr) (allc (fun h => by cases h) alln) ?_
                      rintro v8 hv27 ⟨ra5, raA5, raL5, raC5, ra_6, rb5, PP, rfl, T⟩
                      have Y : Sy _ _ hv27 [_, _, _, _, _] := Y.callV PP ⟨rfl, trivial⟩
                      clear PP
                      obtain rfl := Y.lenS 4 rfl
                      refine ⟨ra5, _, _, _, rb5, rfl, ?_⟩
                      intro hv28
                      have Y : Sy _ _ hv28 [_, _, _, _, _] := ((Y.stJ 1 rfl _ _).stJ 1 rfl _ _)
                      clear_value hv28
                      exact ⟨_, _, _, _, _, _, Y.pick [4] rfl, rfl, T⟩
                    · refine cnd_imp T (fun T => ?_) (fun T => ?_)
                      · have Y : Sy _ _ _ [_, _, _, _, _] := Y.nilS eP 35
                        refine callX_sy (T _ _ _ _ (Y.pick [4] rfl).hp) (fun _ _ ⟨_, _, _, _, p, _⟩ => p.fr) (allc (Y.nO 1 [4] rfl rfl) alln) ?_
                        rintro v9 hv29 ⟨rA2, rL2, rC2, r_3, PP, rfl, T⟩
                        have Y : Sy _ _ hv29 [_, _, _, _, _] := Y.call2 [4, 0, 1, 2, 3] rfl (A := [_]) rfl rfl PP ⟨rfl, trivial⟩
                        clear PP
                        obtain rfl := Y.lenS 0 rfl
                        refine ⟨_, _, _, rfl, ?_⟩
                        obtain ⟨Iv2, m2, T0, T1⟩ := T
                        obtain ⟨B_6, hB_6, YB⟩ := Y.cut [0] [1, 2, 3, 4] rfl
                        obtain ⟨JJ_2, hJJ_2⟩ : ∃ JJ_2 : Nat → List Value → Heap → Prop, JJ_2 = (fun k_2 lz h' => ∃ (lA2 : Option Addr) (lL2 lC2 : Nat) (l_2 : List (Int × Int)) (i2 : Int), lz = [.slice lA2 lL2 lC2, .int .i64 i2] ∧ Sy h [] h' ([Ck.sl eP 35 lA2 lL2 lC2 l_2] ++ B_6) ∧ Iv2 l_2 i2 ∧ m2 l_2 i2 = k_2) := ⟨_, rfl⟩
                        refine ⟨fun lz h' => ∃ k_2, JJ_2 k_2 lz h', Lm JJ_2, ?_, ?_⟩
                        · subst hJJ_2 hB_6
                          exact ⟨_, _, _, _, _, _, rfl, YB, T0, rfl⟩
                        · clear YB T0 Y
                          intro lA2 lL2 lC2 i2 hv30 hI
                          obtain ⟨k_2, hI, hm_2⟩ := loopIn hI
                          subst hJJ_2 hB_6
                          obtain ⟨lA2, lL2, lC2, l_2, i2, e, Y, T, rfl⟩ := hI
                          cases e
                          obtain rfl := Y.lenS 0 rfl
                          replace T := T1 l_2 i2 T
                          have Y : Sy _ _ _ [_, _, _, _, _] := Y
                          refine cnd_imp T (fun T => ?_) (fun T => ?_)
                          · intro hv31
                            have Y : Sy _ _ hv31 [_, _, _, _, _, _] := Y.junk _
                            clear_value hv31
                            obtain ⟨q_2, T⟩ := T
                            refine ⟨_, Y.ownS 0 rfl, (allc (Y.nJ 0 5 rfl rfl rfl) (allc (Y.nJ 0 2 rfl rfl rfl) alln)), by first | exact appB q_2 (by decide) | omega, by first | exact appM q_2 | (simp [maxLen]; omega), ?_⟩
                            intro sA2 sC2 hv32 ow fA gA gB
                            have Y : Sy _ _ hv32 [_, _, _, _, _, _] := Y.appS 0 rfl ([(a, i2)] : List (Int × Int)) ow fA gA rfl rfl
                            exact loopBack hm_2 ⟨_, _, _, _, _, rfl, Y.pick [0, 1, 2, 3, 4] rfl, T.1, rfl⟩ T.2
                          · refine callX_sy (T _ _ _ _ (Y.pick [0] rfl).hp) (fun _ _ ⟨_, _, _, _, _, _, p, _⟩ => p.fr) (allc (Y.nO 2 [0] rfl rfl) alln) ?_
                            rintro v10 hv33 ⟨ra6, raA6, raL6, raC6, ra_7, rb6, PP, rfl, T⟩
                            have Y : Sy _ _ hv33 [_, _, _, _, _] := Y.call2 [0, 1, 2, 3, 4] rfl (A := [_]) rfl rfl PP ⟨rfl, trivial⟩
                            clear PP
                            obtain rfl := Y.lenS 0 rfl
                            refine ⟨ra6, _, _, _, rb6, rfl, ?_⟩
                            intro hv34
                            have Y : Sy _ _ hv34 [_, _, _, _, _] := ((Y.stJ 2 rfl _ _).stJ 2 rfl _ _)
                            clear_value hv34
                            exact ⟨_, _, _, _, _, _, Y.pick [0] rfl, rfl, T⟩
                      · refine cnd_imp T (fun T => ?_) (fun T => ?_)
                        · have Y : Sy _ _ _ [_, _, _, _, _] := Y.nilS eP 35
                          refine callX_sy (T _ _ _ _ (Y.pick [4] rfl).hp) (fun _ _ ⟨_, _, _, _, p, _⟩ => p.fr) (allc (Y.nO 1 [4] rfl rfl) alln) ?_
                          rintro v11 hv35 ⟨rA3, rL3, rC3, r_4, PP, rfl, T⟩
                          have Y : Sy _ _ hv35 [_, _, _, _, _] := Y.call2 [4, 0, 1, 2, 3] rfl (A := [_]) rfl rfl PP ⟨rfl, trivial⟩
                          clear PP
                          obtain rfl := Y.lenS 0 rfl
                          refine ⟨_, _, _, rfl, ?_⟩
                          refine callX_sy (T _ _ _ _ (Y.pick [0] rfl).hp) (fun _ _ ⟨_, _, _, _, p, _⟩ => p.fr) (allc (Y.nO 2 [0] rfl rfl) alln) ?_
                          rintro v12 hv36 ⟨rA4, rL4, rC4, r_5, PP, rfl, T⟩
                          have Y : Sy _ _ hv36 [_, _, _, _, _] := Y.call2 [0, 1, 2, 3, 4] rfl (A := [_]) rfl rfl PP ⟨rfl, trivial⟩
                          clear PP
                          obtain rfl := Y.lenS 0 rfl
                          refine ⟨_, _, _, rfl, ?_⟩
                          obtain ⟨Iv3, m3, T0, T1⟩ := T
                          obtain ⟨B_7, hB_7, YB⟩ := Y.cut [0] [1, 2, 3, 4] rfl
                          obtain ⟨JJ_3, hJJ_3⟩ : ∃ JJ_3 : Nat → List Value → Heap → Prop, JJ_3 = (fun k_3 lz h' => ∃ (lA3 : Option Addr) (lL3 lC3 : Nat) (l_3 : List (Int × Int)) (i3 : Int), lz = [.slice lA3 lL3 lC3, .int .i64 i3] ∧ Sy h [] h' ([Ck.sl eP 35 lA3 lL3 lC3 l_3] ++ B_7) ∧ Iv3 l_3 i3 ∧ m3 l_3 i3 = k_3) := ⟨_, rfl⟩
                          refine ⟨fun lz h' => ∃ k_3, JJ_3 k_3 lz h', Lm JJ_3, ?_, ?_⟩
                          · subst hJJ_3 hB_7
                            exact ⟨_, _, _, _, _, _, rfl, YB, T0, rfl⟩
                          · clear YB T0 Y
                            intro lA3 lL3 lC3 i3 hv37 hI
                            obtain ⟨k_3, hI, hm_3⟩ := loopIn hI
                            subst hJJ_3 hB_7
                            obtain ⟨lA3, lL3, lC3, l_3, i3, e, Y, T, rfl⟩ := hI
                            cases e
                            obtain rfl := Y.lenS 0 rfl
                            replace T := T1 l_3 i3 T
                            have Y : Sy _ _ _ [_, _, _, _, _] := Y
                            refine cnd_imp T (fun T => ?_) (fun T => ?_)
                            · intro hv38
                              have Y : Sy _ _ hv38 [_, _, _, _, _, _] := Y.junk _
                              clear_value hv38
                              obtain ⟨q_3, T⟩ := T
                              refine ⟨_, Y.ownS 0 rfl, (allc (Y.nJ 0 5 rfl rfl rfl) (allc (Y.nJ 0 2 rfl rfl rfl) alln)), by first | exact appB q_3 (by decide) | omega, by first | exact appM q_3 | (simp [maxLen]; omega), ?_⟩
                              intro sA3 sC3 hv39 ow fA gA gB
                              have Y : Sy _ _ hv39 [_, _, _, _, _, _] := Y.appS 0 rfl ([(i3, (IntKind.i64.wrap (a + i3)))] : List (Int × Int)) ow fA gA rfl rfl
                              exact loopBack hm_3 ⟨_, _, _, _, _, rfl, Y.pick [0, 1, 2, 3, 4] rfl, T.1, rfl⟩ T.2
                            · refine callX_sy (T _ _ _ _ (Y.pick [0] rfl).hp) (fun _ _ ⟨_, _, _, _, _, _, p, _⟩ => p.fr) (allc (Y.nO 2 [0] rfl rfl) alln) ?_
                              rintro v13 hv40 ⟨ra7, raA7, raL7, raC7, ra_8, rb7, PP, rfl, T⟩
                              have Y : Sy _ _ hv40 [_, _, _, _, _] := Y.call2 [0, 1, 2, 3, 4] rfl (A := [_]) rfl rfl PP ⟨rfl, trivial⟩
                              clear PP
                              obtain rfl := Y.lenS 0 rfl
                              refine ⟨ra7, _, _, _, rb7, rfl, ?_⟩
                              intro hv41
                              have Y : Sy _ _ hv41 [_, _, _, _, _] := ((Y.stJ 2 rfl _ _).stJ 2 rfl _ _)
                              clear_value hv41
                              exact ⟨_, _, _, _, _, _, Y.pick [0] rfl, rfl, T⟩
                        · refine cnd_imp T (fun T => ?_) (fun T => ?_)
                          · have Y : Sy _ _ _ [_, _, _, _, _] := Y.nilS eP 35
                            obtain ⟨Iv4, m4, T0, T1⟩ := T
                            obtain ⟨B_8, hB_8, YB⟩ := Y.cut [4] [0, 1, 2, 3] rfl
                            obtain ⟨JJ_4, hJJ_4⟩ : ∃ JJ_4 : Nat → List Value → Heap → Prop, JJ_4 = (fun k_4 lz h' => ∃ (lA4 : Option Addr) (lL4 lC4 : Nat) (l_4 : List (Int × Int)) (i4 : Int), lz = [.slice lA4 lL4 lC4, .int .i64 i4] ∧ Sy h [] h' ([Ck.sl eP 35 lA4 lL4 lC4 l_4] ++ B_8) ∧ Iv4 l_4 i4 ∧ m4 l_4 i4 = k_4) := ⟨_, rfl⟩
                            refine ⟨fun lz h' => ∃ k_4, JJ_4 k_4 lz h', Lm JJ_4, ?_, ?_⟩
                            · subst hJJ_4 hB_8
                              exact ⟨_, _, _, _, _, _, rfl, YB, T0, rfl⟩
                            · clear YB T0 Y
                              intro lA4 lL4 lC4 i4 hv42 hI
                              obtain ⟨k_4, hI, hm_4⟩ := loopIn hI
                              subst hJJ_4 hB_8
                              obtain ⟨lA4, lL4, lC4, l_4, i4, e, Y, T, rfl⟩ := hI
                              cases e
                              obtain rfl := Y.lenS 0 rfl
                              replace T := T1 l_4 i4 T
                              have Y : Sy _ _ _ [_, _, _, _, _] := Y
                              refine cnd_imp T (fun T => ?_) (fun T => ?_)
                              · intro hv43
                                have Y : Sy _ _ hv43 [_, _, _, _, _, _] := Y.junk _
                                clear_value hv43
                                obtain ⟨q_4, T⟩ := T
                                refine ⟨_, Y.ownS 0 rfl, (allc (Y.nJ 0 5 rfl rfl rfl) (allc (Y.nJ 0 2 rfl rfl rfl) alln)), by first | exact appB q_4 (by decide) | omega, by first | exact appM q_4 | (simp [maxLen]; omega), ?_⟩
                                intro sA4 sC4 hv44 ow fA gA gB
                                have Y : Sy _ _ hv44 [_, _, _, _, _, _] := Y.appS 0 rfl ([(0, 1)] : List (Int × Int)) ow fA gA rfl rfl
                                exact loopBack hm_4 ⟨_, _, _, _, _, rfl, Y.pick [0, 1, 2, 3, 4] rfl, T.1, rfl⟩ T.2
                              · refine callX_sy (T _ _ _ _ (Y.pick [0] rfl).hp) (fun _ _ ⟨_, _, _, _, _, _, p, _⟩ => p.fr) (allc (Y.nO 2 [0] rfl rfl) alln) ?_
                                rintro v14 hv45 ⟨ra8, raA8, raL8, raC8, ra_9, rb8, PP, rfl, T⟩
                                have Y : Sy _ _ hv45 [_, _, _, _, _] := Y.call2 [0, 1, 2, 3, 4] rfl (A := [_]) rfl rfl PP ⟨rfl, trivial⟩
                                clear PP
                                obtain rfl := Y.lenS 0 rfl
                                refine ⟨ra8, _, _, _, rb8, rfl, ?_⟩
                                intro hv46
                                have Y : Sy _ _ hv46 [_, _, _, _, _] := ((Y.stJ 2 rfl _ _).stJ 2 rfl _ _)
                                clear_value hv46
                                exact ⟨_, _, _, _, _, _, Y.pick [0] rfl, rfl, T⟩
                          · refine cnd_imp T (fun T => ?_) (fun T => ?_)
                            · refine callX_sy (T _ (Hp.nil _)) (fun _ _ ⟨_, _, _, _, _, _, p, _⟩ => p.fr) (allc (fun h => by cases h) alln) ?_
                              rintro v15 hv47 ⟨ra9, raA9, raL9, raC9, ra_10, rb9, PP, rfl, T⟩
                              have Y : Sy _ _ hv47 [_, _, _, _, _] := Y.callV PP ⟨rfl, trivial⟩
                              clear PP
                              obtain rfl := Y.lenS 4 rfl
                              refine ⟨ra9, _, _, _, rb9, rfl, ?_⟩
                              intro hv48
                              have Y : Sy _ _ hv48 [_, _, _, _, _] := ((Y.stJ 1 rfl _ _).stJ 1 rfl _ _)
                              clear_value hv48
                              exact ⟨_, _, _, _, _, _, Y.pick [4] rfl, rfl, T⟩
                            · refine callX_sy (T _ (Hp.nil _)) (fun _ _ ⟨_, _, _, _, _, _, p, _⟩ => p.fr) (allc (fun h => by cases h) alln) ?_
                              rintro v16 hv49 ⟨ra10, raA10, raL10, raC10, ra_11, rb10, PP, rfl, T⟩
                              have Y : Sy _ _ hv49 [_, _, _, _, _] := Y.callV PP ⟨rfl, trivial⟩
                              clear PP
                              obtain rfl := Y.lenS 4 rfl
                              refine ⟨ra10, _, _, _, rb10, rfl, ?_⟩
                              intro hv50
                              have Y : Sy _ _ hv50 [_, _, _, _, _] := ((Y.stJ 1 rfl _ _).stJ 1 rfl _ _)
                              clear_value hv50
                              exact ⟨_, _, _, _, _, _, Y.pick [4] rfl, rfl, T⟩
      subst hB_4
      replace T := T0
      clear T0 T1
      refine cnd_imp T (fun T => ?_) (fun T => ?_)
      · intro hv6
        have Y : Sy _ _ hv6 [_, _] := ((Y.stJ 1 rfl _ _).stJ 1 rfl _ _)
        clear_value hv6
        have Y : Sy _ _ _ [_, _, _] := Y.nilS eP 35
        exact ⟨_, _, _, _, _, _, Y.pick [2] rfl, rfl, T⟩
      · refine cnd_imp T (fun T => ?_) (fun T => ?_)
        · refine cnd_imp T (fun T => ?_) (fun T => ?_)
          · intro hv6
            have Y : Sy _ _ hv6 [_, _] := ((Y.stJ 1 rfl _ _).stJ 1 rfl _ _)
            clear_value hv6
            have Y : Sy _ _ _ [_, _, _] := Y.nilS eP 35
            exact ⟨_, _, _, _, _, _, Y.pick [2] rfl, rfl, T⟩
          · refine cnd_imp T (fun T => ?_) (fun T => ?_)
            · refine cnd_imp T (fun T => ?_) (fun T => ?_)
              · intro hv7
                have Y : Sy _ _ hv7 [_, _] := ((Y.stJ 1 rfl _ _).stJ 1 rfl _ _)
                clear_value hv7
                have Y : Sy _ _ _ [_, _, _] := Y.nilS eP 35
                exact ⟨_, _, _, _, _, _, Y.pick [2] rfl, rfl, T⟩
              · exact hK3 _ ⟨Y.pick [0, 1] rfl, T⟩
            · exact hK3 _ ⟨Y.pick [0, 1] rfl, T⟩
        · refine cnd_imp T (fun T => ?_) (fun T => ?_)
          · refine cnd_imp T (fun T => ?_) (fun T => ?_)
            · intro hv7
              have Y : Sy _ _ hv7 [_, _] := ((Y.stJ 1 rfl _ _).stJ 1 rfl _ _)
              clear_value hv7
              have Y : Sy _ _ _ [_, _, _] := Y.nilS eP 35
              exact ⟨_, _, _, _, _, _, Y.pick [2] rfl, rfl, T⟩
            · exact hK3 _ ⟨Y.pick [0, 1] rfl, T⟩
          · exact hK3 _ ⟨Y.pick [0, 1] rfl, T⟩
  · refine cnd_imp T (fun T => ?_) (fun T => ?_)
    · obtain ⟨Jv, T0, T1⟩ := T
      obtain ⟨B_9, hB_9, _⟩ := Y.cut [] [0] rfl
      refine ⟨fun lz h' => ∃ (least : Int) (c0 : Int) (c1A : Option Addr) (c1L c1C : Nat) (c1_2 : List (Int × Int)), lz = [.int .i64 least, .int .i64 c0, .slice c1A c1L c1C] ∧ Sy h [] h' ([Ck.sl eP 35 c1A c1L c1C c1_2] ++ B_9) ∧ Jv least c0 c1_2, ?_, ?_⟩
      · subst hB_9
        replace T := T0
        clear T0 T1
        obtain ⟨Jv_5, T0, T1⟩ := T
        obtain ⟨B_10, hB_10, _⟩ := Y.cut [] [0] rfl
        intro K
        have hK : ∀ (x : Bool) (hv2 : Heap), (Sy h [] hv2 ([] ++ B_10) ∧ Jv_5 x) → K x hv2 := by
          subst hB_10
          clear T0 Y
          rintro x hv2 ⟨Y, T⟩
          replace T := T1 x T
          have Y : Sy _ _ _ [_] := Y
          unfold K
          refine cnd_imp T (fun T => ?_) (fun T => ?_)
          · have Y : Sy _ _ _ [_, _] := Y.nilS eP 35
            exact ⟨_, _, _, _, _, _, rfl, Y.pick [1, 0] rfl, T⟩
          · obtain ⟨Jv_6, T0, T1⟩ := T
            obtain ⟨B_11, hB_11, _⟩ := Y.cut [] [0] rfl
            intro K2
            have hK2 : ∀ (x2 : Bool) (hv3 : Heap), (Sy h [] hv3 ([] ++ B_11) ∧ Jv_6 x2) → K2 x2 hv3 := by
              subst hB_11
              clear T0 Y
              rintro x2 hv3 ⟨Y, T⟩
              replace T := T1 x2 T
              have Y : Sy _ _ _ [_] := Y
              unfold K2
              refine cnd_imp T (fun T => ?_) (fun T => ?_)
              · have Y : Sy _ _ _ [_, _] := Y.nilS eP 35
                exact ⟨_, _, _, _, _, _, rfl, Y.pick [1, 0] rfl, T⟩
              · intro hv4
                have Y : Sy _ _ hv4 [_] := ((Y.stJ 0 rfl _ _).stJ 0 rfl _ _)
                clear_value hv4
                have Y : Sy _ _ _ [_, _] := Y.nilS eP 35
                exact ⟨_, _, _, _, _, _, Y.pick [1] rfl, rfl, T⟩
            subst hB_11
            replace T := T0
            clear T0 T1
            refine cnd_imp T (fun T => ?_) (fun T => ?_)
            · exact hK2 _ _ ⟨Y.pick [0] rfl, T⟩
            · refine cnd_imp T (fun T => ?_) (fun T => ?_)
              · exact hK2 _ _ ⟨Y.pick [0] rfl, T⟩
              · exact hK2 _ _ ⟨Y.pick [0] rfl, T⟩
        subst hB_10
        replace T := T0
        clear T0 T1
        refine cnd_imp T (fun T => ?_) (fun T => ?_)
        · exact hK _ _ ⟨Y.pick [0] rfl, T⟩
        · refine cnd_imp T (fun T => ?_) (fun T => ?_)
          · exact hK _ _ ⟨Y.pick [0] rfl, T⟩
          · refine cnd_imp T (fun T => ?_) (fun T => ?_)
            · exact hK _ _ ⟨Y.pick [0] rfl, T⟩
            · refine cnd_imp T (fun T => ?_) (fun T => ?_)
              · exact hK _ _ ⟨Y.pick [0] rfl, T⟩
              · refine cnd_imp T (fun T => ?_) (fun T => ?_)
                · exact hK _ _ ⟨Y.pick [0] rfl, T⟩
                · refine cnd_imp T (fun T => ?_) (fun T => ?_)
                  · exact hK _ _ ⟨Y.pick [0] rfl, T⟩
                  · exact hK _ _ ⟨Y.pick [0] rfl, T⟩
      · subst hB_9
        clear T0 Y
        rintro least c0 c1A c1L c1C hv5 ⟨least, c0, c1A, c1L, c1C, c1_2, e, Y, T⟩
        cases e
        obtain rfl := Y.lenS 0 rfl
        replace T := T1 least c0 c1_2 T
        have Y : Sy _ _ _ [_, _] := Y
        obtain ⟨Jv_7, T0, T1⟩ := T
        obtain ⟨B_12, hB_12, _⟩ := Y.cut [] [0, 1] rfl
        intro K3
        have hK3 : ∀  (hv8 : Heap), (Sy h [] hv8 ([] ++ B_12) ∧ Jv_7) → K3 hv8 := by
          subst hB_12
          clear T0 Y
          rintro hv8 ⟨Y, T⟩
          replace T := T1 T
          have Y : Sy _ _ _ [_, _] := Y
          unfold K3
          intro hv9
          have Y : Sy _ _ hv9 [_, _, _] := Y.litS (E := eI) (ty := 3) ([a] : List Int) rfl (by simp [maxLen])
          clear_value hv9
          refine callX_sy (T _ _ _ _ ((Y.turn 2 rfl To.slvw).pick [2] rfl).hp) (fun _ _ ⟨_, p, _⟩ => p.fr) (allc (fun h => by cases h) alln) ?_
          rintro v hv10 ⟨r, PP, rfl, T⟩
          have Y : Sy _ _ hv10 [_, _, _] := Y.gr PP.fr
          clear PP
          refine ⟨r, rfl, ?_⟩
          refine cnd_imp T (fun T => ?_) (fun T => ?_)
          · intro hv13
            have Y : Sy _ _ hv13 [_, _, _] := ((Y.stJ 1 rfl _ _).stJ 1 rfl _ _)
            clear_value hv13
            have Y : Sy _ _ _ [_, _, _, _] := Y.nilS eP 35
            exact ⟨_, _, _, _, _, _, Y.pick [3] rfl, rfl, T⟩
          · intro hv11
            have Y : Sy _ _ hv11 [_, _, _, _] := Y.litS (E := eI) (ty := 3) ([b] : List Int) rfl (by simp [maxLen])
            clear_value hv11
            refine callX_sy (T _ _ _ _ ((Y.turn 3 rfl To.slvw).pick [3] rfl).hp) (fun _ _ ⟨_, p, _⟩ => p.fr) (allc (fun h => by cases h) alln) ?_
            rintro v2 hv12 ⟨r2, PP, rfl, T⟩
            have Y : Sy _ _ hv12 [_, _, _, _] := Y.gr PP.fr
            clear PP
            refine ⟨r2, rfl, ?_⟩
            refine cnd_imp T (fun T => ?_) (fun T => ?_)
            · intro hv14
              have Y : Sy _ _ hv14 [_, _, _, _] := ((Y.stJ 1 rfl _ _).stJ 1 rfl _ _)
              clear_value hv14
              have Y : Sy _ _ _ [_, _, _, _, _] := Y.nilS eP 35
              exact ⟨_, _, _, _, _, _, Y.pick [4] rfl, rfl, T⟩
            · refine cnd_imp T (fun T => ?_) (fun T => ?_)
              · have Y : Sy _ _ _ [_, _, _, _, _] := Y.nilS eP 35
                obtain ⟨Iv, m, T0, T1⟩ := T
                obtain ⟨B_13, hB_13, YB⟩ := Y.cut [4] [0, 1, 2, 3] rfl
                obtain ⟨JJ_5, hJJ_5⟩ : ∃ JJ_5 : Nat → List Value → Heap → Prop, JJ_5 = (fun k_5 lz h' => ∃ (lA : Option Addr) (lL lC : Nat) (l_5 : List (Int × Int)) (i : Int), lz = [.slice lA lL lC, .int .i64 i] ∧ Sy h [] h' ([Ck.sl eP 35 lA lL lC l_5] ++ B_13) ∧ Iv l_5 i ∧ m l_5 i = k_5) := ⟨_, rfl⟩
                refine ⟨fun lz h' => ∃ k_5, JJ_5 k_5 lz h', Lm JJ_5, ?_, ?_⟩
                · subst hJJ_5 hB_13
                  exact ⟨_, _, _, _, _, _, rfl, YB, T0, rfl⟩
                · clear YB T0 Y
                  intro lA lL lC i hv15 hI
                  obtain ⟨k_5, hI, hm_5⟩ := loopIn hI
                  subst hJJ_5 hB_13
                  obtain ⟨lA, lL, lC, l_5, i, e, Y, T, rfl⟩ := hI
                  cases e
                  obtain rfl := Y.lenS 0 rfl
                  replace T := T1 l_5 i T
                  have Y : Sy _ _ _ [_, _, _, _, _] := Y
                  refine cnd_imp T (fun T => ?_) (fun T => ?_)
                  · intro hv16
                    have Y : Sy _ _ hv16 [_, _, _, _, _, _] := Y.junk _
                    clear_value hv16
                    obtain ⟨q_5, T⟩ := T
                    refine ⟨_, Y.ownS 0 rfl, (allc (Y.nJ 0 5 rfl rfl rfl) (allc (Y.nJ 0 2 rfl rfl rfl) alln)), by first | exact appB q_5 (by decide) | omega, by first | exact appM q_5 | (simp [maxLen]; omega), ?_⟩
                    intro sA sC hv17 ow fA gA gB
                    have Y : Sy _ _ hv17 [_, _, _, _, _, _] := Y.appS 0 rfl ([(i, (IntKind.i64.wrap (i + (1 : Int))))] : List (Int × Int)) ow fA gA rfl rfl
                    exact loopBack hm_5 ⟨_, _, _, _, _, rfl, Y.pick [0, 1, 2, 3, 4] rfl, T.1, rfl⟩ T.2
                  · refine callX_sy (T _ _ _ _ (Y.pick [0] rfl).hp) (fun _ _ ⟨_, _, _, _, _, _, p, _⟩ => p.fr) (allc (Y.nO 2 [0] rfl rfl) alln) ?_
                    rintro v3 hv18 ⟨ra, raA, raL, raC, ra_12, rb, PP, rfl, T⟩
                    have Y : Sy _ _ hv18 [_, _, _, _, _] := Y.call2 [0, 1, 2, 3, 4] rfl (A := [_]) rfl rfl PP ⟨rfl, trivial⟩
                    clear PP
                    obtain rfl := Y.lenS 0 rfl
                    refine ⟨ra, _, _, _, rb, rfl, ?_⟩
                    intro hv19
                    have Y : Sy _ _ hv19 [_, _, _, _, _] := ((Y.stJ 2 rfl _ _).stJ 2 rfl _ _)
                    clear_value hv19
                    exact ⟨_, _, _, _, _, _, Y.pick [0] rfl, rfl, T⟩
              · refine cnd_imp T (fun T => ?_) (fun T => ?_)
                · have Y : Sy _ _ _ [_, _, _, _, _] := Y.nilS eP 35
                  refine callX_sy (T _ _ _ _ (Y.pick [4] rfl).hp) (fun _ _ ⟨_, _, _, _, p, _⟩ => p.fr) (allc (Y.nO 1 [4] rfl rfl) alln) ?_
                  rintro v4 hv20 ⟨rA, rL, rC, r_6, PP, rfl, T⟩
                  have Y : Sy _ _ hv20 [_, _, _, _, _] := Y.call2 [4, 0, 1, 2, 3] rfl (A := [_]) rfl rfl PP ⟨rfl, trivial⟩
                  clear PP
                  obtain rfl := Y.lenS 0 rfl
                  refine ⟨_, _, _, rfl, ?_⟩
                  refine callX_sy (T _ _ _ _ (Y.pick [0] rfl).hp) (fun _ _ ⟨_, _, _, _, _, _, p, _⟩ => p.fr) (allc (Y.nO 2 [0] rfl rfl) alln) ?_
                  rintro v5 hv21 ⟨ra2, raA2, raL2, raC2, ra_13, rb2, PP, rfl, T⟩
                  have Y : Sy _ _ hv21 [_, _, _, _, _] := Y.call2 [0, 1, 2, 3, 4] rfl (A := [_]) rfl rfl PP ⟨rfl, trivial⟩
                  clear PP
                  obtain rfl := Y.lenS 0 rfl
                  refine ⟨ra2, _, _, _, rb2, rfl, ?_⟩
                  intro hv22
                  have Y : Sy _ _ hv22 [_, _, _, _, _] := ((Y.stJ 2 rfl _ _).stJ 2 rfl _ _)
                  clear_value hv22
                  exact ⟨_, _, _, _, _, _, Y.pick [0] rfl, rfl, T⟩
                · refine cnd_imp T (fun T => ?_) (fun T => ?_)
                  · refine callX_sy (T _ (Hp.nil _)) (fun _ _ ⟨_, _, _, _, _, _, p, _⟩ => p.fr) (allc (fun h => by cases h) alln) ?_
                    rintro v6 hv23 ⟨ra3, raA3, raL3, raC3, ra_14, rb3, PP, rfl, T⟩
                    have Y : Sy _ _ hv23 [_, _, _, _, _] := Y.callV PP ⟨rfl, trivial⟩
                    clear PP
                    obtain rfl := Y.lenS 4 rfl
                    refine ⟨ra3, _, _, _, rb3, rfl, ?_⟩
                    intro hv24
                    have Y : Sy _ _ hv24 [_, _, _, _, _] := ((Y.stJ 1 rfl _ _).stJ 1 rfl _ _)
                    clear_value hv24
                    exact ⟨_, _, _, _, _, _, Y.pick [4] rfl, rfl, T⟩
                  · refine cnd_imp T (fun T => ?_) (fun T => ?_)
                    · refine callX_sy (T _ (Hp.nil _)) (fun _ _ ⟨_, _, _, _, _, _, p, _⟩ => p.fr) (allc (fun h => by cases h) alln) ?_
                      rintro v7 hv25 ⟨ra4, raA4, raL4, raC4, ra_15, rb4, PP, rfl, T⟩
                      have Y : Sy _ _ hv25 [_, _, _, _, _] := Y.callV PP ⟨rfl, trivial⟩
                      clear PP
                      obtain rfl := Y.lenS 4 rfl
                      refine ⟨ra4, _, _, _, rb4, rfl, ?_⟩
                      intro hv26
                      have Y : Sy _ _ hv26 [_, _, _, _, _] := ((Y.stJ 1 rfl _ _).stJ 1 rfl _ _)
                      clear_value hv26
                      exact ⟨_, _, _, _, _, _, Y.pick [4] rfl, rfl, T⟩
                    · refine cnd_imp T (fun T => ?_) (fun T => ?_)
                      · refine callX_sy (T _ (Hp.nil _)) (fun _ _ ⟨_, _, _, _, _, _, p, _⟩ => p.fr) (allc (fun h => by cases h) alln) ?_
                        rintro v8 hv27 ⟨ra5, raA5, raL5, raC5, ra_16, rb5, PP, rfl, T⟩
                        have Y : Sy _ _ hv27 [_, _, _, _, _] := Y.callV PP ⟨rfl, trivial⟩
                        clear PP
                        obtain rfl := Y.lenS 4 rfl
                        refine ⟨ra5, _, _, _, rb5, rfl, ?_⟩
                        intro hv28
                        have Y : Sy _ _ hv28 [_, _, _, _, _] := ((Y.stJ 1 rfl _ _).stJ 1 rfl _ _)
                        clear_value hv28
                        exact ⟨_, _, _, _, _, _, Y.pick [4] rfl, rfl, T⟩
                      · refine cnd_imp T (fun T => ?_) (fun T => ?_)
                        · have Y : Sy _ _ _ [_, _, _, _, _] := Y.nilS eP 35
                          refine callX_sy (T _ _ _ _ (Y.pick [4] rfl).hp) (fun _ _ ⟨_, _, _, _, p, _⟩ => p.fr) (allc (Y.nO 1 [4] rfl rfl) alln) ?_
                          rintro v9 hv29 ⟨rA2, rL2, rC2, r_7, PP, rfl, T⟩
                          have Y : Sy _ _ hv29 [_, _, _, _, _] := Y.call2 [4, 0, 1, 2, 3] rfl (A := [_]) rfl rfl PP ⟨rfl, trivial⟩
                          clear PP
                          obtain rfl := Y.lenS 0 rfl
                          refine ⟨_, _, _, rfl, ?_⟩
                          obtain ⟨Iv2, m2, T0, T1⟩ := T
                          obtain ⟨B_14, hB_14, YB⟩ := Y.cut [0] [1, 2, 3, 4] rfl
                          obtain ⟨JJ_6, hJJ_6⟩ : ∃ JJ_6 : Nat → List Value → Heap → Prop, JJ_6 = (fun k_6 lz h' => ∃ (lA2 : Option Addr) (lL2 lC2 : Nat) (l_6 : List (Int × Int)) (i2 : Int), lz = [.slice lA2 lL2 lC2, .int .i64 i2] ∧ Sy h [] h' ([Ck.sl eP 35 lA2 lL2 lC2 l_6] ++ B_14) ∧ Iv2 l_6 i2 ∧ m2 l_6 i2 = k_6) := ⟨_, rfl⟩
                          refine ⟨fun lz h' => ∃ k_6, JJ_6 k_6 lz h', Lm JJ_6, ?_, ?_⟩
                          · subst hJJ_6 hB_14
                            exact ⟨_, _, _, _, _, _, rfl, YB, T0, rfl⟩
                          · clear YB T0 Y
                            intro lA2 lL2 lC2 i2 hv30 hI
                            obtain ⟨k_6, hI, hm_6⟩ := loopIn hI
                            subst hJJ_6 hB_14
                            obtain ⟨lA2, lL2, lC2, l_6, i2, e, Y, T, rfl⟩ := hI
                            cases e
                            obtain rfl := Y.lenS 0 rfl
                            replace T := T1 l_6 i2 T
                            have Y : Sy _ _ _ [_, _, _, _, _] := Y
                            refine cnd_imp T (fun T => ?_) (fun T => ?_)
                            · intro hv31
                              have Y : Sy _ _ hv31 [_, _, _, _, _, _] := Y.junk _
                              clear_value hv31
                              obtain ⟨q_6, T⟩ := T
                              refine ⟨_, Y.ownS 0 rfl, (allc (Y.nJ 0 5 rfl rfl rfl) (allc (Y.nJ 0 2 rfl rfl rfl) alln)), by first | exact appB q_6 (by decide) | omega, by first | exact appM q_6 | (simp [maxLen]; omega), ?_⟩
                              intro sA2 sC2 hv32 ow fA gA gB
                              have Y : Sy _ _ hv32 [_, _, _, _, _, _] := Y.appS 0 rfl ([(a, i2)] : List (Int × Int)) ow fA gA rfl rfl
                              exact loopBack hm_6 ⟨_, _, _, _, _, rfl, Y.pick [0, 1, 2, 3, 4] rfl, T.1, rfl⟩ T.2
                            · refine callX_sy (T _ _ _ _ (Y.pick [0] rfl).hp) (fun _ _ ⟨_, _, _, _, _, _, p, _⟩ => p.fr) (allc (Y.nO 2 [0] rfl rfl) alln) ?_
                              rintro v10 hv33 ⟨ra6, raA6, raL6, raC6, ra_17, rb6, PP, rfl, T⟩
                              have Y : Sy _ _ hv33 [_, _, _, _, _] := Y.call2 [0, 1, 2, 3, 4] rfl (A := [_]) rfl rfl PP ⟨rfl, trivial⟩
                              clear PP
                              obtain rfl := Y.lenS 0 rfl
                              refine ⟨ra6, _, _, _, rb6, rfl, ?_⟩
                              intro hv34
                              have Y : Sy _ _ hv34 [_, _, _, _, _] := ((Y.stJ 2 rfl _ _).stJ 2 rfl _ _)
                              clear_value hv34
                              exact ⟨_, _, _, _, _, _, Y.pick [0] rfl, rfl, T⟩
                        · refine cnd_imp T (fun T => ?_) (fun T => ?_)
                          · have Y : Sy _ _ _ [_, _, _, _, _] := Y.nilS eP 35
                            refine callX_sy (T _ _ _ _ (Y.pick [4] rfl).hp) (fun _ _ ⟨_, _, _, _, p, _⟩ => p.fr) (allc (Y.nO 1 [4] rfl rfl) alln) ?_
                            rintro v11 hv35 ⟨rA3, rL3, rC3, r_8, PP, rfl, T⟩
                            have Y : Sy _ _ hv35 [_, _, _, _, _] := Y.call2 [4, 0, 1, 2, 3] rfl (A := [_]) rfl rfl PP ⟨rfl, trivial⟩
                            clear PP
                            obtain rfl := Y.lenS 0 rfl
                            refine ⟨_, _, _, rfl, ?_⟩
                            refine callX_sy (T _ _ _ _ (Y.pick [0] rfl).hp) (fun _ _ ⟨_, _, _, _, p, _⟩ => p.fr) (allc (Y.nO 2 [0] rfl rfl) alln) ?_
                            rintro v12 hv36 ⟨rA4, rL4, rC4, r_9, PP, rfl, T⟩
                            have Y : Sy _ _ hv36 [_, _, _, _, _] := Y.call2 [0, 1, 2, 3, 4] rfl (A := [_]) rfl rfl PP ⟨rfl, trivial⟩
                            clear PP
                            obtain rfl := Y.lenS 0 rfl
                            refine ⟨_, _, _, rfl, ?_⟩
                            obtain ⟨Iv3, m3, T0, T1⟩ := T
                            obtain ⟨B_15, hB_15, YB⟩ := Y.cut [0] [1, 2, 3, 4] rfl
                            obtain ⟨JJ_7, hJJ_7⟩ : ∃ JJ_7 : Nat → List Value → Heap → Prop, JJ_7 = (fun k_7 lz h' => ∃ (lA3 : Option Addr) (lL3 lC3 : Nat) (l_7 : List (Int × Int)) (i3 : Int), lz = [.slice lA3 lL3 lC3, .int .i64 i3] ∧ Sy h [] h' ([Ck.sl eP 35 lA3 lL3 lC3 l_7] ++ B_15) ∧ Iv3 l_7 i3 ∧ m3 l_7 i3 = k_7) := ⟨_, rfl⟩
                            refine ⟨fun lz h' => ∃ k_7, JJ_7 k_7 lz h', Lm JJ_7, ?_, ?_⟩
                            · subst hJJ_7 hB_15
                              exact ⟨_, _, _, _, _, _, rfl, YB, T0, rfl⟩
                            · clear YB T0 Y
                              intro lA3 lL3 lC3 i3 hv37 hI
                              obtain ⟨k_7, hI, hm_7⟩ := loopIn hI
                              subst hJJ_7 hB_15
                              obtain ⟨lA3, lL3, lC3, l_7, i3, e, Y, T, rfl⟩ := hI
                              cases e
                              obtain rfl := Y.lenS 0 rfl
                              replace T := T1 l_7 i3 T
                              have Y : Sy _ _ _ [_, _, _, _, _] := Y
                              refine cnd_imp T (fun T => ?_) (fun T => ?_)
                              · intro hv38
                                have Y : Sy _ _ hv38 [_, _, _, _, _, _] := Y.junk _
                                clear_value hv38
                                obtain ⟨q_7, T⟩ := T
                                refine ⟨_, Y.ownS 0 rfl, (allc (Y.nJ 0 5 rfl rfl rfl) (allc (Y.nJ 0 2 rfl rfl rfl) alln)), by first | exact appB q_7 (by decide) | omega, by first | exact appM q_7 | (simp [maxLen]; omega), ?_⟩
                                intro sA3 sC3 hv39 ow fA gA gB
                                have Y : Sy _ _ hv39 [_, _, _, _, _, _] := Y.appS 0 rfl ([(i3, (IntKind.i64.wrap (a + i3)))] : List (Int × Int)) ow fA gA rfl rfl
                                exact loopBack hm_7 ⟨_, _, _, _, _, rfl, Y.pick [0, 1, 2, 3, 4] rfl, T.1, rfl⟩ T.2
                              · refine callX_sy (T _ _ _ _ (Y.pick [0] rfl).hp) (fun _ _ ⟨_, _, _, _, _, _, p, _⟩ => p.fr) (allc (Y.nO 2 [0] rfl rfl) alln) ?_
                                rintro v13 hv40 ⟨ra7, raA7, raL7, raC7, ra_18, rb7, PP, rfl, T⟩
                                have Y : Sy _ _ hv40 [_, _, _, _, _] := Y.call2 [0, 1, 2, 3, 4] rfl (A := [_]) rfl rfl PP ⟨rfl, trivial⟩
                                clear PP
                                obtain rfl := Y.lenS 0 rfl
                                refine ⟨ra7, _, _, _, rb7, rfl, ?_⟩
                                intro hv41
                                have Y : Sy _ _ hv41 [_, _, _, _, _] := ((Y.stJ 2 rfl _ _).stJ 2 rfl _ _)
                                clear_value hv41
                                exact ⟨_, _, _, _, _, _, Y.pick [0] rfl, rfl, T⟩
                          · refine cnd_imp T (fun T => ?_) (fun T => ?_)
                            · have Y : Sy _ _ _ [_, _, _, _, _] := Y.nilS eP 35
                              obtain ⟨Iv4, m4, T0, T1⟩ := T
                              obtain ⟨B_16, hB_16, YB⟩ := Y.cut [4] [0, 1, 2, 3] rfl
                              obtain ⟨JJ_8, hJJ_8⟩ : ∃ JJ_8 : Nat → List Value → Heap → Prop, JJ_8 = (fun k_8 lz h' => ∃ (lA4 : Option Addr) (lL4 lC4 : Nat) (l_8 : List (Int × Int)) (i4 : Int), lz = [.slice lA4 lL4 lC4, .int .i64 i4] ∧ Sy h [] h' ([Ck.sl eP 35 lA4 lL4 lC4 l_8] ++ B_16) ∧ Iv4 l_8 i4 ∧ m4 l_8 i4 = k_8) := ⟨_, rfl⟩
                              refine ⟨fun lz h' => ∃ k_8, JJ_8 k_8 lz h', Lm JJ_8, ?_, ?_⟩
                              · subst hJJ_8 hB_16
                                exact ⟨_, _, _, _, _, _, rfl, YB, T0, rfl⟩
                              · clear YB T0 Y
                                intro lA4 lL4 lC4 i4 hv42 hI
                                obtain ⟨k_8, hI, hm_8⟩ := loopIn hI
                                subst hJJ_8 hB_16
                                obtain ⟨lA4, lL4, lC4, l_8, i4, e, Y, T, rfl⟩ := hI
                                cases e
                                obtain rfl := Y.lenS 0 rfl
                                replace T := T1 l_8 i4 T
                                have Y : Sy _ _ _ [_, _, _, _, _] := Y
                                refine cnd_imp T (fun T => ?_) (fun T => ?_)
                                · intro hv43
                                  have Y : Sy _ _ hv43 [_, _, _, _, _, _] := Y.junk _
                                  clear_value hv43
                                  obtain ⟨q_8, T⟩ := T
                                  refine ⟨_, Y.ownS 0 rfl, (allc (Y.nJ 0 5 rfl rfl rfl) (allc (Y.nJ 0 2 rfl rfl rfl) alln)), by first | exact appB q_8 (by decide) | omega, by first | exact appM q_8 | (simp [maxLen]; omega), ?_⟩
                                  intro sA4 sC4 hv44 ow fA gA gB
                                  have Y : Sy _ _ hv44 [_, _, _, _, _, _] := Y.appS 0 rfl ([(0, 1)] : List (Int × Int)) ow fA gA rfl rfl
                                  exact loopBack hm_8 ⟨_, _, _, _, _, rfl, Y.pick [0, 1, 2, 3, 4] rfl, T.1, rfl⟩ T.2
                                · refine callX_sy (T _ _ _ _ (Y.pick [0] rfl).hp) (fun _ _ ⟨_, _, _, _, _, _, p, _⟩ => p.fr) (allc (Y.nO 2 [0] rfl rfl) alln) ?_
                                  rintro v14 hv45 ⟨ra8, raA8, raL8, raC8, ra_19, rb8, PP, rfl, T⟩
                                  have Y : Sy _ _ hv45 [_, _, _, _, _] := Y.call2 [0, 1, 2, 3, 4] rfl (A := [_]) rfl rfl PP ⟨rfl, trivial⟩
                                  clear PP
                                  obtain rfl := Y.lenS 0 rfl
                                  refine ⟨ra8, _, _, _, rb8, rfl, ?_⟩
                                  intro hv46
                                  have Y : Sy _ _ hv46 [_, _, _, _, _] := ((Y.stJ 2 rfl _ _).stJ 2 rfl _ _)
                                  clear_value hv46
                                  exact ⟨_, _, _, _, _, _, Y.pick [0] rfl, rfl, T⟩
                            · refine cnd_imp T (fun T => ?_) (fun T => ?_)
                              · refine callX_sy (T _ (Hp.nil _)) (fun _ _ ⟨_, _, _, _, _, _, p, _⟩ => p.fr) (allc (fun h => by cases h) alln) ?_
                                rintro v15 hv47 ⟨ra9, raA9, raL9, raC9, ra_20, rb9, PP, rfl, T⟩
                                have Y : Sy _ _ hv47 [_, _, _, _, _] := Y.callV PP ⟨rfl, trivial⟩
                                clear PP
                                obtain rfl := Y.lenS 4 rfl
                                refine ⟨ra9, _, _, _, rb9, rfl, ?_⟩
                                intro hv48
                                have Y : Sy _ _ hv48 [_, _, _, _, _] := ((Y.stJ 1 rfl _ _).stJ 1 rfl _ _)
                                clear_value hv48
                                exact ⟨_, _, _, _, _, _, Y.pick [4] rfl, rfl, T⟩
                              · refine callX_sy (T _ (Hp.nil _)) (fun _ _ ⟨_, _, _, _, _, _, p, _⟩ => p.fr) (allc (fun h => by cases h) alln) ?_
                                rintro v16 hv49 ⟨ra10, raA10, raL10, raC10, ra_21, rb10, PP, rfl, T⟩
                                have Y : Sy _ _ hv49 [_, _, _, _, _] := Y.callV PP ⟨rfl, trivial⟩
                                clear PP
                                obtain rfl := Y.lenS 4 rfl
                                refine ⟨ra10, _, _, _, rb10, rfl, ?_⟩
                                intro hv50
                                have Y : Sy _ _ hv50 [_, _, _, _, _] := ((Y.stJ 1 rfl _ _).stJ 1 rfl _ _)
                                clear_value hv50
                                exact ⟨_, _, _, _, _, _, Y.pick [4] rfl, rfl, T⟩
        subst hB_12
        replace T := T0
        clear T0 T1
        refine cnd_imp T (fun T => ?_) (fun T => ?_)
        · intro hv6
          have Y : Sy _ _ hv6 [_, _] := ((Y.stJ 1 rfl _ _).stJ 1 rfl _ _)
          clear_value hv6
          have Y : Sy _ _ _ [_, _, _] := Y.nilS eP 35
          exact ⟨_, _, _, _, _, _, Y.pick [2] rfl, rfl, T⟩
        · refine cnd_imp T (fun T => ?_) (fun T => ?_)
          · refine cnd_imp T (fun T => ?_) (fun T => ?_)
            · intro hv6
              have Y : Sy _ _ hv6 [_, _] := ((Y.stJ 1 rfl _ _).stJ 1 rfl _ _)
              clear_value hv6
              have Y : Sy _ _ _ [_, _, _] := Y.nilS eP 35
              exact ⟨_, _, _, _, _, _, Y.pick [2] rfl, rfl, T⟩
            · refine cnd_imp T (fun T => ?_) (fun T => ?_)
              · refine cnd_imp T (fun T => ?_) (fun T => ?_)
                · intro hv7
                  have Y : Sy _ _ hv7 [_, _] := ((Y.stJ 1 rfl _ _).stJ 1 rfl _ _)
                  clear_value hv7
                  have Y : Sy _ _ _ [_, _, _] := Y.nilS eP 35
                  exact ⟨_, _, _, _, _, _, Y.pick [2] rfl, rfl, T⟩
                · exact hK3 _ ⟨Y.pick [0, 1] rfl, T⟩
              · exact hK3 _ ⟨Y.pick [0, 1] rfl, T⟩
          · refine cnd_imp T (fun T => ?_) (fun T => ?_)
            · refine cnd_imp T (fun T => ?_) (fun T => ?_)
              · intro hv7
                have Y : Sy _ _ hv7 [_, _] := ((Y.stJ 1 rfl _ _).stJ 1 rfl _ _)
                clear_value hv7
                have Y : Sy _ _ _ [_, _, _] := Y.nilS eP 35
                exact ⟨_, _, _, _, _, _, Y.pick [2] rfl, rfl, T⟩
              · exact hK3 _ ⟨Y.pick [0, 1] rfl, T⟩
            · exact hK3 _ ⟨Y.pick [0, 1] rfl, T⟩
    · obtain ⟨Jv2, T0, T1⟩ := T
      obtain ⟨B_17, hB_17, _⟩ := Y.cut [] [0] rfl
      refine ⟨fun lz h' => ∃ (least2 : Int) (c0_2 : Int) (c1A2 : Option Addr) (c1L2 c1C2 : Nat) (c1_3 : List (Int × Int)), lz = [.int .i64 least2, .int .i64 c0_2, .slice c1A2 c1L2 c1C2] ∧ Sy h [] h' ([Ck.sl eP 35 c1A2 c1L2 c1C2 c1_3] ++ B_17) ∧ Jv2 least2 c0_2 c1_3, ?_, ?_⟩
      · subst hB_17
        replace T := T0
        clear T0 T1
        obtain ⟨Jv_8, T0, T1⟩ := T
        obtain ⟨B_18, hB_18, _⟩ := Y.cut [] [0] rfl
        intro K4
        have hK4 : ∀ (x3 : Bool) (hv51 : Heap), (Sy h [] hv51 ([] ++ B_18) ∧ Jv_8 x3) → K4 x3 hv51 := by
          subst hB_18
          clear T0 Y
          rintro x3 hv51 ⟨Y, T⟩
          replace T := T1 x3 T
          have Y : Sy _ _ _ [_] := Y
          unfold K4
          refine cnd_imp T (fun T => ?_) (fun T => ?_)
          · have Y : Sy _ _ _ [_, _] := Y.nilS eP 35
            exact ⟨_, _, _, _, _, _, rfl, Y.pick [1, 0] rfl, T⟩
          · obtain ⟨Jv_9, T0, T1⟩ := T
            obtain ⟨B_19, hB_19, _⟩ := Y.cut [] [0] rfl
            intro K5
            have hK5 : ∀ (x4 : Bool) (hv52 : Heap), (Sy h [] hv52 ([] ++ B_19) ∧ Jv_9 x4) → K5 x4 hv52 := by
              subst hB_19
              clear T0 Y
              rintro x4 hv52 ⟨Y, T⟩
              replace T := T1 x4 T
              have Y : Sy _ _ _ [_] := Y
              unfold K5
              refine cnd_imp T (fun T => ?_) (fun T => ?_)
              · have Y : Sy _ _ _ [_, _] := Y.nilS eP 35
                exact ⟨_, _, _, _, _, _, rfl, Y.pick [1, 0] rfl, T⟩
              · intro hv53
                have Y : Sy _ _ hv53 [_] := ((Y.stJ 0 rfl _ _).stJ 0 rfl _ _)
                clear_value hv53
                have Y : Sy _ _ _ [_, _] := Y.nilS eP 35
                exact ⟨_, _, _, _, _, _, Y.pick [1] rfl, rfl, T⟩
            subst hB_19
            replace T := T0
            clear T0 T1
            refine cnd_imp T (fun T => ?_) (fun T => ?_)
            · exact hK5 _ _ ⟨Y.pick [0] rfl, T⟩
            · refine cnd_imp T (fun T => ?_) (fun T => ?_)
              · exact hK5 _ _ ⟨Y.pick [0] rfl, T⟩
              · exact hK5 _ _ ⟨Y.pick [0] rfl, T⟩
        subst hB_18
        replace T := T0
        clear T0 T1
        refine cnd_imp T (fun T => ?_) (fun T => ?_)
        · exact hK4 _ _ ⟨Y.pick [0] rfl, T⟩
        · refine cnd_imp T (fun T => ?_) (fun T => ?_)
          · exact hK4 _ _ ⟨Y.pick [0] rfl, T⟩
          · refine cnd_imp T (fun T => ?_) (fun T => ?_)
            · exact hK4 _ _ ⟨Y.pick [0] rfl, T⟩
            · refine cnd_imp T (fun T => ?_) (fun T => ?_)
              · exact hK4 _ _ ⟨Y.pick [0] rfl, T⟩
              · refine cnd_imp T (fun T => ?_) (fun T => ?_)
                · exact hK4 _ _ ⟨Y.pick [0] rfl, T⟩
                · refine cnd_imp T (fun T => ?_) (fun T => ?_)
                  · exact hK4 _ _ ⟨Y.pick [0] rfl, T⟩
                  · exact hK4 _ _ ⟨Y.pick [0] rfl, T⟩
      · subst hB_17
        clear T0 Y
        rintro least2 c0_2 c1A2 c1L2 c1C2 hv54 ⟨least2, c0_2, c1A2, c1L2, c1C2, c1_3, e, Y, T⟩
        cases e
        obtain rfl := Y.lenS 0 rfl
        replace T := T1 least2 c0_2 c1_3 T
        have Y : Sy _ _ _ [_, _] := Y
        obtain ⟨Jv_10, T0, T1⟩ := T
        obtain ⟨B_20, hB_20, _⟩ := Y.cut [] [0, 1] rfl
        intro K6
        have hK6 : ∀  (hv57 : Heap), (Sy h [] hv57 ([] ++ B_20) ∧ Jv_10) → K6 hv57 := by
          subst hB_20
          clear T0 Y
          rintro hv57 ⟨Y, T⟩
          replace T := T1 T
          have Y : Sy _ _ _ [_, _] := Y
          unfold K6
          obtain ⟨Jv_11, T0, T1⟩ := T
          obtain ⟨B_21, hB_21, _⟩ := Y.cut [] [0, 1] rfl
          intro K7
          have hK7 : ∀  (hv64 : Heap), (Sy h [] hv64 ([] ++ B_21) ∧ Jv_11) → K7 hv64 := by
            subst hB_21
            clear T0 Y
            rintro hv64 ⟨Y, T⟩
            replace T := T1 T
            have Y : Sy _ _ _ [_, _] := Y
            unfold K7
            refine cnd_imp T (fun T => ?_) (fun T => ?_)
            · have Y : Sy _ _ _ [_, _, _] := Y.nilS eP 35
              obtain ⟨Iv5, m5, T0, T1⟩ := T
              obtain ⟨B_22, hB_22, YB⟩ := Y.cut [2] [0, 1] rfl
              obtain ⟨JJ_9, hJJ_9⟩ : ∃ JJ_9 : Nat → List Value → Heap → Prop, JJ_9 = (fun k_9 lz h' => ∃ (lA5 : Option Addr) (lL5 lC5 : Nat) (l_9 : List (Int × Int)) (i5 : Int), lz = [.slice lA5 lL5 lC5, .int .i64 i5] ∧ Sy h [] h' ([Ck.sl eP 35 lA5 lL5 lC5 l_9] ++ B_22) ∧ Iv5 l_9 i5 ∧ m5 l_9 i5 = k_9) := ⟨_, rfl⟩
              refine ⟨fun lz h' => ∃ k_9, JJ_9 k_9 lz h', Lm JJ_9, ?_, ?_⟩
              · subst hJJ_9 hB_22
                exact ⟨_, _, _, _, _, _, rfl, YB, T0, rfl⟩
              · clear YB T0 Y
                intro lA5 lL5 lC5 i5 hv65 hI
                obtain ⟨k_9, hI, hm_9⟩ := loopIn hI
                subst hJJ_9 hB_22
                obtain ⟨lA5, lL5, lC5, l_9, i5, e, Y, T, rfl⟩ := hI
                cases e
                obtain rfl := Y.lenS 0 rfl
                replace T := T1 l_9 i5 T
                have Y : Sy _ _ _ [_, _, _] := Y
                refine cnd_imp T (fun T => ?_) (fun T => ?_)
                · intro hv66
                  have Y : Sy _ _ hv66 [_, _, _, _] := Y.junk _
                  clear_value hv66
                  obtain ⟨q_9, T⟩ := T
                  refine ⟨_, Y.ownS 0 rfl, (allc (Y.nJ 0 3 rfl rfl rfl) (allc (Y.nJ 0 2 rfl rfl rfl) alln)), by first | exact appB q_9 (by decide) | omega, by first | exact appM q_9 | (simp [maxLen]; omega), ?_⟩
                  intro sA5 sC5 hv67 ow fA gA gB
                  have Y : Sy _ _ hv67 [_, _, _, _] := Y.appS 0 rfl ([(i5, (IntKind.i64.wrap (i5 + (1 : Int))))] : List (Int × Int)) ow fA gA rfl rfl
                  exact loopBack hm_9 ⟨_, _, _, _, _, rfl, Y.pick [0, 1, 2] rfl, T.1, rfl⟩ T.2
                · refine callX_sy (T _ _ _ _ (Y.pick [0] rfl).hp) (fun _ _ ⟨_, _, _, _, _, _, p, _⟩ => p.fr) (allc (Y.nO 2 [0] rfl rfl) alln) ?_
                  rintro v19 hv68 ⟨ra11, raA11, raL11, raC11, ra_22, rb11, PP, rfl, T⟩
                  have Y : Sy _ _ hv68 [_, _, _] := Y.call2 [0, 1, 2] rfl (A := [_]) rfl rfl PP ⟨rfl, trivial⟩
                  clear PP
                  obtain rfl := Y.lenS 0 rfl
                  refine ⟨ra11, _, _, _, rb11, rfl, ?_⟩
                  intro hv69
                  have Y : Sy _ _ hv69 [_, _, _] := ((Y.stJ 2 rfl _ _).stJ 2 rfl _ _)
                  clear_value hv69
                  exact ⟨_, _, _, _, _, _, Y.pick [0] rfl, rfl, T⟩
            · refine cnd_imp T (fun T => ?_) (fun T => ?_)
              · have Y : Sy _ _ _ [_, _, _] := Y.nilS eP 35
                refine callX_sy (T _ _ _ _ (Y.pick [2] rfl).hp) (fun _ _ ⟨_, _, _, _, p, _⟩ => p.fr) (allc (Y.nO 1 [2] rfl rfl) alln) ?_
                rintro v20 hv70 ⟨rA5, rL5, rC5, r_10, PP, rfl, T⟩
                have Y : Sy _ _ hv70 [_, _, _] := Y.call2 [2, 0, 1] rfl (A := [_]) rfl rfl PP ⟨rfl, trivial⟩
                clear PP
                obtain rfl := Y.lenS 0 rfl
                refine ⟨_, _, _, rfl, ?_⟩
                refine callX_sy (T _ _ _ _ (Y.pick [0] rfl).hp) (fun _ _ ⟨_, _, _, _, _, _, p, _⟩ => p.fr) (allc (Y.nO 2 [0] rfl rfl) alln) ?_
                rintro v21 hv71 ⟨ra12, raA12, raL12, raC12, ra_23, rb12, PP, rfl, T⟩
                have Y : Sy _ _ hv71 [_, _, _] := Y.call2 [0, 1, 2] rfl (A := [_]) rfl rfl PP ⟨rfl, trivial⟩
                clear PP
                obtain rfl := Y.lenS 0 rfl
                refine ⟨ra12, _, _, _, rb12, rfl, ?_⟩
                intro hv72
                have Y : Sy _ _ hv72 [_, _, _] := ((Y.stJ 2 rfl _ _).stJ 2 rfl _ _)
                clear_value hv72
                exact ⟨_, _, _, _, _, _, Y.pick [0] rfl, rfl, T⟩
              · refine cnd_imp T (fun T => ?_) (fun T => ?_)
                · refine callX_sy (T _ (Hp.nil _)) (fun _ _ ⟨_, _, _, _, _, _, p, _⟩ => p.fr) (allc (fun h => by cases h) alln) ?_
                  rintro v22 hv73 ⟨ra13, raA13, raL13, raC13, ra_24, rb13, PP, rfl, T⟩
                  have Y : Sy _ _ hv73 [_, _, _] := Y.callV PP ⟨rfl, trivial⟩
                  clear PP
                  obtain rfl := Y.lenS 2 rfl
                  refine ⟨ra13, _, _, _, rb13, rfl, ?_⟩
                  intro hv74
                  have Y : Sy _ _ hv74 [_, _, _] := ((Y.stJ 1 rfl _ _).stJ 1 rfl _ _)
                  clear_value hv74
                  exact ⟨_, _, _, _, _, _, Y.pick [2] rfl, rfl, T⟩
                · refine cnd_imp T (fun T => ?_) (fun T => ?_)
                  · refine callX_sy (T _ (Hp.nil _)) (fun _ _ ⟨_, _, _, _, _, _, p, _⟩ => p.fr) (allc (fun h => by cases h) alln) ?_
                    rintro v23 hv75 ⟨ra14, raA14, raL14, raC14, ra_25, rb14, PP, rfl, T⟩
                    have Y : Sy _ _ hv75 [_, _, _] := Y.callV PP ⟨rfl, trivial⟩
                    clear PP
                    obtain rfl := Y.lenS 2 rfl
                    refine ⟨ra14, _, _, _, rb14, rfl, ?_⟩
                    intro hv76
                    have Y : Sy _ _ hv76 [_, _, _] := ((Y.stJ 1 rfl _ _).stJ 1 rfl _ _)
                    clear_value hv76
                    exact ⟨_, _, _, _, _, _, Y.pick [2] rfl, rfl, T⟩
                  · refine cnd_imp T (fun T => ?_) (fun T => ?_)
                    · refine callX_sy (T _ (Hp.nil _)) (fun _ _ ⟨_, _, _, _, _, _, p, _⟩ => p.fr) (allc (fun h => by cases h) alln) ?_
                      rintro v24 hv77 ⟨ra15, raA15, raL15, raC15, ra_26, rb15, PP, rfl, T⟩
                      have Y : Sy _ _ hv77 [_, _, _] := Y.callV PP ⟨rfl, trivial⟩
                      clear PP
                      obtain rfl := Y.lenS 2 rfl
                      refine ⟨ra15, _, _, _, rb15, rfl, ?_⟩
                      intro hv78
                      have Y : Sy _ _ hv78 [_, _, _] := ((Y.stJ 1 rfl _ _).stJ 1 rfl _ _)
                      clear_value hv78
                      exact ⟨_, _, _, _, _, _, Y.pick [2] rfl, rfl, T⟩
                    · refine cnd_imp T (fun T => ?_) (fun T => ?_)
                      · have Y : Sy _ _ _ [_, _, _] := Y.nilS eP 35
                        refine callX_sy (T _ _ _ _ (Y.pick [2] rfl).hp) (fun _ _ ⟨_, _, _, _, p, _⟩ => p.fr) (allc (Y.nO 1 [2] rfl rfl) alln) ?_
                        rintro v25 hv79 ⟨rA6, rL6, rC6, r_11, PP, rfl, T⟩
                        have Y : Sy _ _ hv79 [_, _, _] := Y.call2 [2, 0, 1] rfl (A := [_]) rfl rfl PP ⟨rfl, trivial⟩
                        clear PP
                        obtain rfl := Y.lenS 0 rfl
                        refine ⟨_, _, _, rfl, ?_⟩
                        obtain ⟨Iv6, m6, T0, T1⟩ := T
                        obtain ⟨B_23, hB_23, YB⟩ := Y.cut [0] [1, 2] rfl
                        obtain ⟨JJ_10, hJJ_10⟩ : ∃ JJ_10 : Nat → List Value → Heap → Prop, JJ_10 = (fun k_10 lz h' => ∃ (lA6 : Option Addr) (lL6 lC6 : Nat) (l_10 : List (Int × Int)) (i6 : Int), lz = [.slice lA6 lL6 lC6, .int .i64 i6] ∧ Sy h [] h' ([Ck.sl eP 35 lA6 lL6 lC6 l_10] ++ B_23) ∧ Iv6 l_10 i6 ∧ m6 l_10 i6 = k_10) := ⟨_, rfl⟩
                        refine ⟨fun lz h' => ∃ k_10, JJ_10 k_10 lz h', Lm JJ_10, ?_, ?_⟩
                        · subst hJJ_10 hB_23
                          exact ⟨_, _, _, _, _, _, rfl, YB, T0, rfl⟩
                        · clear YB T0 Y
                          intro lA6 lL6 lC6 i6 hv80 hI
                          obtain ⟨k_10, hI, hm_10⟩ := loopIn hI
                          subst hJJ_10 hB_23
                          obtain ⟨lA6, lL6, lC6, l_10, i6, e, Y, T, rfl⟩ := hI
                          cases e
                          obtain rfl := Y.lenS 0 rfl
                          replace T := T1 l_10 i6 T
                          have Y : Sy _ _ _ [_, _, _] := Y
                          refine cnd_imp T (fun T => ?_) (fun T => ?_)
                          · intro hv81
                            have Y : Sy _ _ hv81 [_, _, _, _] := Y.junk _
                            clear_value hv81
                            obtain ⟨q_10, T⟩ := T
                            refine ⟨_, Y.ownS 0 rfl, (allc (Y.nJ 0 3 rfl rfl rfl) (allc (Y.nJ 0 2 rfl rfl rfl) alln)), by first | exact appB q_10 (by decide) | omega, by first | exact appM q_10 | (simp [maxLen]; omega), ?_⟩
                            intro sA6 sC6 hv82 ow fA gA gB
                            have Y : Sy _ _ hv82 [_, _, _, _] := Y.appS 0 rfl ([(a, i6)] : List (Int × Int)) ow fA gA rfl rfl
                            exact loopBack hm_10 ⟨_, _, _, _, _, rfl, Y.pick [0, 1, 2] rfl, T.1, rfl⟩ T.2
                          · refine callX_sy (T _ _ _ _ (Y.pick [0] rfl).hp) (fun _ _ ⟨_, _, _, _, _, _, p, _⟩ => p.fr) (allc (Y.nO 2 [0] rfl rfl) alln) ?_
                            rintro v26 hv83 ⟨ra16, raA16, raL16, raC16, ra_27, rb16, PP, rfl, T⟩
                            have Y : Sy _ _ hv83 [_, _, _] := Y.call2 [0, 1, 2] rfl (A := [_]) rfl rfl PP ⟨rfl, trivial⟩
                            clear PP
                            obtain rfl := Y.lenS 0 rfl
                            refine ⟨ra16, _, _, _, rb16, rfl, ?_⟩
                            intro hv84
                            have Y : Sy _ _ hv84 [_, _, _] := ((Y.stJ 2 rfl _ _).stJ 2 rfl _ _)
                            clear_value hv84
                            exact ⟨_, _, _, _, _, _, Y.pick [0] rfl, rfl, T⟩
                      · refine cnd_imp T (fun T => ?_) (fun T => ?_)
                        · have Y : Sy _ _ _ [_, _, _] := Y.nilS eP 35
                          refine callX_sy (T _ _ _ _ (Y.pick [2] rfl).hp) (fun _ _ ⟨_, _, _, _, p, _⟩ => p.fr) (allc (Y.nO 1 [2] rfl rfl) alln) ?_
                          rintro v27 hv85 ⟨rA7, rL7, rC7, r_12, PP, rfl, T⟩
                          have Y : Sy _ _ hv85 [_, _, _] := Y.call2 [2, 0, 1] rfl (A := [_]) rfl rfl PP ⟨rfl, trivial⟩
                          clear PP
                          obtain rfl := Y.lenS 0 rfl
                          refine ⟨_, _, _, rfl, ?_⟩
                          refine callX_sy (T _ _ _ _ (Y.pick [0] rfl).hp) (fun _ _ ⟨_, _, _, _, p, _⟩ => p.fr) (allc (Y.nO 2 [0] rfl rfl) alln) ?_
                          rintro v28 hv86 ⟨rA8, rL8, rC8, r_13, PP, rfl, T⟩
                          have Y : Sy _ _ hv86 [_, _, _] := Y.call2 [0, 1, 2] rfl (A := [_]) rfl rfl PP ⟨rfl, trivial⟩
                          clear PP
                          obtain rfl := Y.lenS 0 rfl
                          refine ⟨_, _, _, rfl, ?_⟩
                          obtain ⟨Iv7, m7, T0, T1⟩ := T
                          obtain ⟨B_24, hB_24, YB⟩ := Y.cut [0] [1, 2] rfl
                          obtain ⟨JJ_11, hJJ_11⟩ : ∃ JJ_11 : Nat → List Value → Heap → Prop, JJ_11 = (fun k_11 lz h' => ∃ (lA7 : Option Addr) (lL7 lC7 : Nat) (l_11 : List (Int × Int)) (i7 : Int), lz = [.slice lA7 lL7 lC7, .int .i64 i7] ∧ Sy h [] h' ([Ck.sl eP 35 lA7 lL7 lC7 l_11] ++ B_24) ∧ Iv7 l_11 i7 ∧ m7 l_11 i7 = k_11) := ⟨_, rfl⟩
                          refine ⟨fun lz h' => ∃ k_11, JJ_11 k_11 lz h', Lm JJ_11, ?_, ?_⟩
                          · subst hJJ_11 hB_24
                            exact ⟨_, _, _, _, _, _, rfl, YB, T0, rfl⟩
                          · clear YB T0 Y
                            intro lA7 lL7 lC7 i7 hv87 hI
                            obtain ⟨k_11, hI, hm_11⟩ := loopIn hI
                            subst hJJ_11 hB_24
                            obtain ⟨lA7, lL7, lC7, l_11, i7, e, Y, T, rfl⟩ := hI
                            cases e
                            obtain rfl := Y.lenS 0 rfl
                            replace T := T1 l_11 i7 T
                            have Y : Sy _ _ _ [_, _, _] := Y
                            refine cnd_imp T (fun T => ?_) (fun T => ?_)
                            · intro hv88
                              have Y : Sy _ _ hv88 [_, _, _, _] := Y.junk _
                              clear_value hv88
                              obtain ⟨q_11, T⟩ := T
                              refine ⟨_, Y.ownS 0 rfl, (allc (Y.nJ 0 3 rfl rfl rfl) (allc (Y.nJ 0 2 rfl rfl rfl) alln)), by first | exact appB q_11 (by decide) | omega, by first | exact appM q_11 | (simp [maxLen]; omega), ?_⟩
                              intro sA7 sC7 hv89 ow fA gA gB
                              have Y : Sy _ _ hv89 [_, _, _, _] := Y.appS 0 rfl ([(i7, (IntKind.i64.wrap (a + i7)))] : List (Int × Int)) ow fA gA rfl rfl
                              exact loopBack hm_11 ⟨_, _, _, _, _, rfl, Y.pick [0, 1, 2] rfl, T.1, rfl⟩ T.2
                            · refine callX_sy (T _ _ _ _ (Y.pick [0] rfl).hp) (fun _ _ ⟨_, _, _, _, _, _, p, _⟩ => p.fr) (allc (Y.nO 2 [0] rfl rfl) alln) ?_
                              rintro v29 hv90 ⟨ra17, raA17, raL17, raC17, ra_28, rb17, PP, rfl, T⟩
                              have Y : Sy _ _ hv90 [_, _, _] := Y.call2 [0, 1, 2] rfl (A := [_]) rfl rfl PP ⟨rfl, trivial⟩
                              clear PP
                              obtain rfl := Y.lenS 0 rfl
                              refine ⟨ra17, _, _, _, rb17, rfl, ?_⟩
                              intro hv91
                              have Y : Sy _ _ hv91 [_, _, _] := ((Y.stJ 2 rfl _ _).stJ 2 rfl _ _)
                              clear_value hv91
                              exact ⟨_, _, _, _, _, _, Y.pick [0] rfl, rfl, T⟩
                        · refine cnd_imp T (fun T => ?_) (fun T => ?_)
                          · have Y : Sy _ _ _ [_, _, _] := Y.nilS eP 35
                            obtain ⟨Iv8, m8, T0, T1⟩ := T
                            obtain ⟨B_25, hB_25, YB⟩ := Y.cut [2] [0, 1] rfl
                            obtain ⟨JJ_12, hJJ_12⟩ : ∃ JJ_12 : Nat → List Value → Heap → Prop, JJ_12 = (fun k_12 lz h' => ∃ (lA8 : Option Addr) (lL8 lC8 : Nat) (l_12 : List (Int × Int)) (i8 : Int), lz = [.slice lA8 lL8 lC8, .int .i64 i8] ∧ Sy h [] h' ([Ck.sl eP 35 lA8 lL8 lC8 l_12] ++ B_25) ∧ Iv8 l_12 i8 ∧ m8 l_12 i8 = k_12) := ⟨_, rfl⟩
                            refine ⟨fun lz h' => ∃ k_12, JJ_12 k_12 lz h', Lm JJ_12, ?_, ?_⟩
                            · subst hJJ_12 hB_25
                              exact ⟨_, _, _, _, _, _, rfl, YB, T0, rfl⟩
                            · clear YB T0 Y
                              intro lA8 lL8 lC8 i8 hv92 hI
                              obtain ⟨k_12, hI, hm_12⟩ := loopIn hI
                              subst hJJ_12 hB_25
                              obtain ⟨lA8, lL8, lC8, l_12, i8, e, Y, T, rfl⟩ := hI
                              cases e
                              obtain rfl := Y.lenS 0 rfl
                              replace T := T1 l_12 i8 T
                              have Y : Sy _ _ _ [_, _, _] := Y
                              refine cnd_imp T (fun T => ?_) (fun T => ?_)
                              · intro hv93
                                have Y : Sy _ _ hv93 [_, _, _, _] := Y.junk _
                                clear_value hv93
                                obtain ⟨q_12, T⟩ := T
                                refine ⟨_, Y.ownS 0 rfl, (allc (Y.nJ 0 3 rfl rfl rfl) (allc (Y.nJ 0 2 rfl rfl rfl) alln)), by first | exact appB q_12 (by decide) | omega, by first | exact appM q_12 | (simp [maxLen]; omega), ?_⟩
                                intro sA8 sC8 hv94 ow fA gA gB
                                have Y : Sy _ _ hv94 [_, _, _, _] := Y.appS 0 rfl ([(0, 1)] : List (Int × Int)) ow fA gA rfl rfl
                                exact loopBack hm_12 ⟨_, _, _, _, _, rfl, Y.pick [0, 1, 2] rfl, T.1, rfl⟩ T.2
                              · refine callX_sy (T _ _ _ _ (Y.pick [0] rfl).hp) (fun _ _ ⟨_, _, _, _, _, _, p, _⟩ => p.fr) (allc (Y.nO 2 [0] rfl rfl) alln) ?_
                                rintro v30 hv95 ⟨ra18, raA18, raL18, raC18, ra_29, rb18, PP, rfl, T⟩
                                have Y : Sy _ _ hv95 [_, _, _] := Y.call2 [0, 1, 2] rfl (A := [_]) rfl rfl PP ⟨rfl, trivial⟩
                                clear PP
                                obtain rfl := Y.lenS 0 rfl
                                refine ⟨ra18, _, _, _, rb18, rfl, ?_⟩
                                intro hv96
                                have Y : Sy _ _ hv96 [_, _, _] := ((Y.stJ 2 rfl _ _).stJ 2 rfl _ _)
                                clear_value hv96
                                exact ⟨_, _, _, _, _, _, Y.pick [0] rfl, rfl, T⟩
                          · refine cnd_imp T (fun T => ?_) (fun T => ?_)
                            · refine callX_sy (T _ (Hp.nil _)) (fun _ _ ⟨_, _, _, _, _, _, p, _⟩ => p.fr) (allc (fun h => by cases h) alln) ?_
                              rintro v31 hv97 ⟨ra19, raA19, raL19, raC19, ra_30, rb19, PP, rfl, T⟩
                              have Y : Sy _ _ hv97 [_, _, _] := Y.callV PP ⟨rfl, trivial⟩
                              clear PP
                              obtain rfl := Y.lenS 2 rfl
                              refine ⟨ra19, _, _, _, rb19, rfl, ?_⟩
                              intro hv98
                              have Y : Sy _ _ hv98 [_, _, _] := ((Y.stJ 1 rfl _ _).stJ 1 rfl _ _)
                              clear_value hv98
                              exact ⟨_, _, _, _, _, _, Y.pick [2] rfl, rfl, T⟩
                            · refine callX_sy (T _ (Hp.nil _)) (fun _ _ ⟨_, _, _, _, _, _, p, _⟩ => p.fr) (allc (fun h => by cases h) alln) ?_
                              rintro v32 hv99 ⟨ra20, raA20, raL20, raC20, ra_31, rb20, PP, rfl, T⟩
                              have Y : Sy _ _ hv99 [_, _, _] := Y.callV PP ⟨rfl, trivial⟩
                              clear PP
                              obtain rfl := Y.lenS 2 rfl
                              refine ⟨ra20, _, _, _, rb20, rfl, ?_⟩
                              intro hv100
                              have Y : Sy _ _ hv100 [_, _, _] := ((Y.stJ 1 rfl _ _).stJ 1 rfl _ _)
                              clear_value hv100
                              exact ⟨_, _, _, _, _, _, Y.pick [2] rfl, rfl, T⟩
          subst hB_21
          replace T := T0
          clear T0 T1
          intro hv58
          have Y : Sy _ _ hv58 [_, _, _] := Y.litS (E := eI) (ty := 3) ([a] : List Int) rfl (by simp [maxLen])
          clear_value hv58
          refine callX_sy (T _ _ _ _ ((Y.turn 2 rfl To.slvw).pick [2] rfl).hp) (fun _ _ ⟨_, p, _⟩ => p.fr) (allc (fun h => by cases h) alln) ?_
          rintro v17 hv59 ⟨r3, PP, rfl, T⟩
          have Y : Sy _ _ hv59 [_, _, _] := Y.gr PP.fr
          clear PP
          refine ⟨r3, rfl, ?_⟩
          refine cnd_imp T (fun T => ?_) (fun T => ?_)
          · intro hv62
            have Y : Sy _ _ hv62 [_, _, _] := ((Y.stJ 1 rfl _ _).stJ 1 rfl _ _)
            clear_value hv62
            have Y : Sy _ _ _ [_, _, _, _] := Y.nilS eP 35
            exact ⟨_, _, _, _, _, _, Y.pick [3] rfl, rfl, T⟩
          · refine cnd_imp T (fun T => ?_) (fun T => ?_)
            · intro hv60
              have Y : Sy _ _ hv60 [_, _, _, _] := Y.litS (E := eI) (ty := 3) ([b] : List Int) rfl (by simp [maxLen])
              clear_value hv60
              refine callX_sy (T _ _ _ _ ((Y.turn 3 rfl To.slvw).pick [3] rfl).hp) (fun _ _ ⟨_, p, _⟩ => p.fr) (allc (fun h => by cases h) alln) ?_
              rintro v18 hv61 ⟨r4, PP, rfl, T⟩
              have Y : Sy _ _ hv61 [_, _, _, _] := Y.gr PP.fr
              clear PP
              refine ⟨r4, rfl, ?_⟩
              refine cnd_imp T (fun T => ?_) (fun T => ?_)
              · intro hv63
                have Y : Sy _ _ hv63 [_, _, _, _] := ((Y.stJ 1 rfl _ _).stJ 1 rfl _ _)
                clear_value hv63
                have Y : Sy _ _ _ [_, _, _, _, _] := Y.nilS eP 35
                exact ⟨_, _, _, _, _, _, Y.pick [4] rfl, rfl, T⟩
              · exact hK7 _ ⟨Y.pick [0, 1] rfl, T⟩
            · exact hK7 _ ⟨Y.pick [0, 1] rfl, T⟩
        subst hB_20
        replace T := T0
        clear T0 T1
        refine cnd_imp T (fun T => ?_) (fun T => ?_)
        · intro hv55
          have Y : Sy _ _ hv55 [_, _] := ((Y.stJ 1 rfl _ _).stJ 1 rfl _ _)
          clear_value hv55
          have Y : Sy _ _ _ [_, _, _] := Y.nilS eP 35
          exact ⟨_, _, _, _, _, _, Y.pick [2] rfl, rfl, T⟩
        · refine cnd_imp T (fun T => ?_) (fun T => ?_)
          · refine cnd_imp T (fun T => ?_) (fun T => ?_)
            · refine cnd_imp T (fun T => ?_) (fun T => ?_)
              · intro hv55
                have Y : Sy _ _ hv55 [_, _] := ((Y.stJ 1 rfl _ _).stJ 1 rfl _ _)
                clear_value hv55
                have Y : Sy _ _ _ [_, _, _] := Y.nilS eP 35
                exact ⟨_, _, _, _, _, _, Y.pick [2] rfl, rfl, T⟩
              · refine cnd_imp T (fun T => ?_) (fun T => ?_)
                · refine cnd_imp T (fun T => ?_) (fun T => ?_)
                  · intro hv56
                    have Y : Sy _ _ hv56 [_, _] := ((Y.stJ 1 rfl _ _).stJ 1 rfl _ _)
                    clear_value hv56
                    have Y : Sy _ _ _ [_, _, _] := Y.nilS eP 35
                    exact ⟨_, _, _, _, _, _, Y.pick [2] rfl, rfl, T⟩
                  · exact hK6 _ ⟨Y.pick [0, 1] rfl, T⟩
                · exact hK6 _ ⟨Y.pick [0, 1] rfl, T⟩
            · refine cnd_imp T (fun T => ?_) (fun T => ?_)
              · refine cnd_imp T (fun T => ?_) (fun T => ?_)
                · intro hv56
                  have Y : Sy _ _ hv56 [_, _] := ((Y.stJ 1 rfl _ _).stJ 1 rfl _ _)
                  clear_value hv56
                  have Y : Sy _ _ _ [_, _, _] := Y.nilS eP 35
                  exact ⟨_, _, _, _, _, _, Y.pick [2] rfl, rfl, T⟩
                · exact hK6 _ ⟨Y.pick [0, 1] rfl, T⟩
              · exact hK6 _ ⟨Y.pick [0, 1] rfl, T⟩
          · refine cnd_imp T (fun T => ?_) (fun T => ?_)
            · refine cnd_imp T (fun T => ?_) (fun T => ?_)
              · intro hv56
                have Y : Sy _ _ hv56 [_, _] := ((Y.stJ 1 rfl _ _).stJ 1 rfl _ _)
                clear_value hv56
                have Y : Sy _ _ _ [_, _, _] := Y.nilS eP 35
                exact ⟨_, _, _, _, _, _, Y.pick [2] rfl, rfl, T⟩
              · exact hK6 _ ⟨Y.pick [0, 1] rfl, T⟩
            · exact hK6 _ ⟨Y.pick [0, 1] rfl, T⟩
end Go.Proofs.Ytmcloipjlihhlaa.N
