/- What is left to be shown of some functions: printed by program out of the loaded functions; tied to them by the kernel. Conditions: none. -/
import Derived.Test.YtmcloipjlihhlaaSEnv
namespace Go.Proofs.Ytmcloipjlihhlaa
open Go.X
set_option maxRecDepth 100000
set_option linter.unusedVariables false

/-- (*tracery/kura.form).between -/
def S225 (fP : Option Addr) (u : Int) (v : Int) (h : Heap) (R : Value → Heap → Prop) : Prop :=
  ∃ b o, fP = some ⟨b, o, none⟩ ∧ ∃ (xA : Option Addr) (xL xC : Nat), hcell h b (o + 4) = some (.slice xA xL xC) ∧ ∃ (Iv : List Value → Heap → Prop) (m : List Value → Heap → Nat), Iv [.slice none 0 0, .int .i64 0] h ∧ -- loop 0: ['found', '15'] []
  ∀ (foundA : Option Addr) (foundL foundC : Nat), ∀ x : Int, ∀ hv, Iv [.slice foundA foundL foundC, .int .i64 x] hv →
  cnd (decide (x < ((xL : Nat) : Int)))
    (∃ b2 o2, xA = some ⟨b2, o2, none⟩ ∧ 0 ≤ x ∧ x < (xL : Nat) ∧ ∃ (xA2 : Option Addr) (xL2 xC2 : Nat), hcell hv b2 (o2 + (Int.toNat x) * 1) = some (.slice xA2 xL2 xC2) ∧ ∃ b3 o3, xA2 = some ⟨b3, o3, none⟩ ∧ 0 ≤ (0 : Int) ∧ (0 : Int) < (xL2 : Nat) ∧ ∃ x2 : Int, hcell hv b3 (o3 + (Int.toNat (0 : Int)) * 1) = some (.int .i64 x2) ∧ callX Try.prog 159 #[.pointer fP, .int .i64 (bits .xor .i64 x2 (1 : Int))] hv [] fun v2 hv2 =>
    ∃ r : Int, v2 = .int .i64 r ∧
    cnd (r == u)
      (∃ b4 o4, xA2 = some ⟨b4, o4, none⟩ ∧ 0 ≤ (IntKind.i64.wrap (((xL2 : Nat) : Int) - (1 : Int))) ∧ (IntKind.i64.wrap (((xL2 : Nat) : Int) - (1 : Int))) < (xL2 : Nat) ∧ ∃ x3 : Int, hcell hv2 b4 (o4 + (Int.toNat (IntKind.i64.wrap (((xL2 : Nat) : Int) - (1 : Int)))) * 1) = some (.int .i64 x3) ∧ callX Try.prog 159 #[.pointer fP, .int .i64 x3] hv2 [] fun v3 hv3 =>
      ∃ r2 : Int, v3 = .int .i64 r2 ∧
      ∃ Jv : List Value → Heap → Prop, -- join 38 ['found'] []
      ( cnd (r2 == v)
         (cnd (!(Option.isNone foundA))
           (R (.slice none 0 0) hv3)
           (Jv [.slice xA2 xL2 xC2] hv3))
         (Jv [.slice foundA foundL foundC] hv3)) ∧
      ∀ (foundA2 : Option Addr) (foundL2 foundC2 : Nat), ∀ hv4, Jv [.slice foundA2 foundL2 foundC2] hv4 →
      Iv [.slice foundA2 foundL2 foundC2, .int .i64 (IntKind.i64.wrap (x + (1 : Int)))] hv4 ∧ m [.slice foundA2 foundL2 foundC2, .int .i64 (IntKind.i64.wrap (x + (1 : Int)))] hv4 < m [.slice foundA foundL foundC, .int .i64 x] hv)
      (Iv [.slice foundA foundL foundC, .int .i64 (IntKind.i64.wrap (x + (1 : Int)))] hv2 ∧ m [.slice foundA foundL foundC, .int .i64 (IntKind.i64.wrap (x + (1 : Int)))] hv2 < m [.slice foundA foundL foundC, .int .i64 x] hv))
    (R (.slice foundA foundL foundC) hv)
theorem calls225 {h : Heap} {R : Value → Heap → Prop} (fP : Option Addr) (u : Int) (v : Int) (H : S225 fP u v h R) : CallsH Try.prog 225 #[.pointer fP, .int .i64 u, .int .i64 v] h R := by
  have e : S225 fP u v h R = FX (envX [] 44) { loops := [(0, ⟨[0, 1, 2, 13, 14], [7, 15], [], []⟩)], joins := [(38, ⟨[0, 1, 2, 13, 14, 15], [7], [], []⟩)], blocks := [], draws := [] } Try.f225 (Try.f225.body.getD .skip) [.pointer fP, .int .i64 u, .int .i64 v] h R := by kernel_rfl
  exact calls_of_FX (envX_ok _ _) Try.func225 (by kernel_rfl) (by kernel_rfl) (by kernel_rfl) (e ▸ H)
/-- (*tracery/kura.form).settle -/
def S224 (fP : Option Addr) (pairsA : Option Addr) (pairsL pairsC : Nat) (kind : Int) (h : Heap) (R : Value → Heap → Prop) : Prop :=
  ∃ (Iv : List Value → Heap → Prop) (m : List Value → Heap → Nat), Iv [.slice none 0 0, .int .i64 0] h ∧ -- loop 0: ['l', '12'] []
  ∀ (lA : Option Addr) (lL lC : Nat), ∀ x : Int, ∀ hv, Iv [.slice lA lL lC, .int .i64 x] hv →
  cnd (decide (x < ((pairsL : Nat) : Int)))
    (∃ b o, pairsA = some ⟨b, o, none⟩ ∧ 0 ≤ x ∧ x < (pairsL : Nat) ∧ ∃ x2 : Int, hcell hv b (o + (Int.toNat x) * 2) = some (.int .i64 x2) ∧ ∃ x3 : Int, hcell hv b ((o + (Int.toNat x) * 2) + 1) = some (.int .i64 x3) ∧ let hv2 : Heap := hv.push (.cells #[.int .i64 0, .int .i64 0] 35)
    let hv3 : Heap := hset (hset hv2 hv.size 0 (.int .i64 x2)) hv.size (0 + 1) (.int .i64 x3)
    callX Try.prog 225 #[.pointer fP, .int .i64 x2, .int .i64 x3] hv3 [hv.size] fun v hv4 =>
    ∃ (rA : Option Addr) (rL rC : Nat), v = .slice rA rL rC ∧
    cnd (Option.isNone rA)
      (R (.tuple #[]) hv4)
      (let hv5 : Heap := hv4.push (.cells #[.slice rA rL rC] 40)
      ∃ old, Ownd hv5 40 1 lA lL lC old ∧ (∀ b ∈ ([hv4.size, hv.size] : List Nat), b ∉ blkOf lA) ∧ (lL + 1) * 24 ≤ 140737488355328 ∧ (lL + 1) ≤ maxLen ∧
      ∀ sA sC hv7, Ownd hv7 40 1 sA (lL + 1) sC (old ++ [.slice rA rL rC]) → Fr (blkOf lA) hv5 hv7 → ((sA = lA ∧ sC = lC) ∨ ∃ g, sA = some ⟨g, 0, none⟩ ∧ hv5.size ≤ g) → (lC < (lL + 1) → Fr [] hv5 hv7) →
      Iv [.slice sA (lL + 1) sC, .int .i64 (IntKind.i64.wrap (x + (1 : Int)))] hv7 ∧ m [.slice sA (lL + 1) sC, .int .i64 (IntKind.i64.wrap (x + (1 : Int)))] hv7 < m [.slice lA lL lC, .int .i64 x] hv))
    (∃ b2 o2, fP = some ⟨b2, o2, none⟩ ∧ (∃ u, hcell hv b2 (o2 + 4) = some u) ∧ hfree hv b2 (o2 + 4) = true ∧ let hv8 : Heap := hset hv b2 (o2 + 4) (.slice lA lL lC)
    ∃ b3 o3, fP = some ⟨b3, o3, none⟩ ∧ (∃ u, hcell hv8 b3 (o3 + 5) = some u) ∧ hfree hv8 b3 (o3 + 5) = true ∧ let hv9 : Heap := hset hv8 b3 (o3 + 5) (.int .i64 kind)
    R (.tuple #[]) hv9)
theorem calls224 {h : Heap} {R : Value → Heap → Prop} (fP : Option Addr) (pairsA : Option Addr) (pairsL pairsC : Nat) (kind : Int) (H : S224 fP pairsA pairsL pairsC kind h R) : CallsH Try.prog 224 #[.pointer fP, .slice pairsA pairsL pairsC, .int .i64 kind] h R := by
  have e : S224 fP pairsA pairsL pairsC kind h R = FX (envX [8, 26] 37) { loops := [(0, ⟨[0, 2, 10, 11], [6, 12], [], []⟩)], joins := [], blocks := [], draws := [] } Try.f224 (Try.f224.body.getD .skip) [.pointer fP, .slice pairsA pairsL pairsC, .int .i64 kind] h R := by kernel_rfl
  exact calls_of_FX (envX_ok _ _) Try.func224 (by kernel_rfl) (by kernel_rfl) (by kernel_rfl) (e ▸ H)
/-- (*tracery/kura.form).parted -/
def S210 (fP : Option Addr) (h : Heap) (R : Value → Heap → Prop) : Prop :=
  ∃ b o, fP = some ⟨b, o, none⟩ ∧ ∃ (xA : Option Addr) (xL xC : Nat), hcell h b (o + 3) = some (.slice xA xL xC) ∧ 0 ≤ (1 : Int) ∧ (1 : Int) ≤ (xC : Nat) ∧ 0 ≤ (1 : Int) ∧ (1 : Int) ≤ ((Int.toNat (1 : Int)) : Nat) ∧ ∃ b2 o2, fP = some ⟨b2, o2, none⟩ ∧ ∃ (xA2 : Option Addr) (xL2 xC2 : Nat), hcell h b2 (o2 + 3) = some (.slice xA2 xL2 xC2) ∧ 0 ≤ (1 : Int) ∧ (1 : Int) ≤ (xL2 : Nat) ∧ ∃ (Iv : List Value → Heap → Prop) (m : List Value → Heap → Nat), Iv [.slice (if (Int.toNat (1 : Int)) = 0 then xA else Option.map (fun addr => Addr.add addr (0 * 1)) xA) ((Int.toNat (1 : Int)) - 0) ((Int.toNat (1 : Int)) - 0), .slice none 0 0, .int .i64 0] h ∧ -- loop 0: ['first', 'others', '22'] []
  ∀ (firstA : Option Addr) (firstL firstC : Nat), ∀ (othersA : Option Addr) (othersL othersC : Nat), ∀ x : Int, ∀ hv, Iv [.slice firstA firstL firstC, .slice othersA othersL othersC, .int .i64 x] hv →
  cnd (decide (x < (((xL2 - (Int.toNat (1 : Int))) : Nat) : Int)))
    (∃ b3 o3, (if xC2 = (Int.toNat (1 : Int)) then xA2 else Option.map (fun addr => Addr.add addr ((Int.toNat (1 : Int)) * 1)) xA2) = some ⟨b3, o3, none⟩ ∧ 0 ≤ x ∧ x < ((xL2 - (Int.toNat (1 : Int))) : Nat) ∧ ∃ x2 : Int, hcell hv b3 (o3 + (Int.toNat x) * 1) = some (.int .i64 x2) ∧ ∃ b4 o4, firstA = some ⟨b4, o4, none⟩ ∧ 0 ≤ (0 : Int) ∧ (0 : Int) < (firstL : Nat) ∧ ∃ x3 : Int, hcell hv b4 (o4 + (Int.toNat (0 : Int)) * 1) = some (.int .i64 x3) ∧ callX Try.prog 225 #[.pointer fP, .int .i64 x3, .int .i64 x2] hv [] fun v hv2 =>
    ∃ (rA : Option Addr) (rL rC : Nat), v = .slice rA rL rC ∧
    ∃ Jv : List Value → Heap → Prop, -- join 32 ['first', 'others'] []
    ( cnd (!(Option.isNone rA))
       (let hv3 : Heap := hv2.push (.cells #[.int .i64 x2] 3)
       ∃ old, Ownd hv3 3 1 othersA othersL othersC old ∧ (∀ b ∈ ([hv2.size] : List Nat), b ∉ blkOf othersA) ∧ (othersL + 1) * 8 ≤ 140737488355328 ∧ (othersL + 1) ≤ maxLen ∧
       ∀ sA sC hv5, Ownd hv5 3 1 sA (othersL + 1) sC (old ++ [.int .i64 x2]) → Fr (blkOf othersA) hv3 hv5 → ((sA = othersA ∧ sC = othersC) ∨ ∃ g, sA = some ⟨g, 0, none⟩ ∧ hv3.size ≤ g) → (othersC < (othersL + 1) → Fr [] hv3 hv5) →
       Jv [.slice firstA firstL firstC, .slice sA (othersL + 1) sC] hv5)
       (let hv6 : Heap := hv2.push (.cells #[.int .i64 x2] 3)
       ∃ old2, Ownd hv6 3 1 firstA firstL firstC old2 ∧ (∀ b ∈ ([hv2.size] : List Nat), b ∉ blkOf firstA) ∧ (firstL + 1) * 8 ≤ 140737488355328 ∧ (firstL + 1) ≤ maxLen ∧
       ∀ sA2 sC2 hv8, Ownd hv8 3 1 sA2 (firstL + 1) sC2 (old2 ++ [.int .i64 x2]) → Fr (blkOf firstA) hv6 hv8 → ((sA2 = firstA ∧ sC2 = firstC) ∨ ∃ g, sA2 = some ⟨g, 0, none⟩ ∧ hv6.size ≤ g) → (firstC < (firstL + 1) → Fr [] hv6 hv8) →
       Jv [.slice sA2 (firstL + 1) sC2, .slice othersA othersL othersC] hv8)) ∧
    ∀ (firstA2 : Option Addr) (firstL2 firstC2 : Nat), ∀ (othersA2 : Option Addr) (othersL2 othersC2 : Nat), ∀ hv9, Jv [.slice firstA2 firstL2 firstC2, .slice othersA2 othersL2 othersC2] hv9 →
    Iv [.slice firstA2 firstL2 firstC2, .slice othersA2 othersL2 othersC2, .int .i64 (IntKind.i64.wrap (x + (1 : Int)))] hv9 ∧ m [.slice firstA2 firstL2 firstC2, .slice othersA2 othersL2 othersC2, .int .i64 (IntKind.i64.wrap (x + (1 : Int)))] hv9 < m [.slice firstA firstL firstC, .slice othersA othersL othersC, .int .i64 x] hv)
    (cnd (((othersL : Nat) : Int) != (3 : Int))
      (R (.tuple #[]) hv)
      (∃ (Iv2 : List Value → Heap → Prop) (m2 : List Value → Heap → Nat), Iv2 [.slice none 0 0, .int .i64 0] hv ∧ -- loop 2: ['pairs', '47'] []
      ∀ (pairsA : Option Addr) (pairsL pairsC : Nat), ∀ x4 : Int, ∀ hv10, Iv2 [.slice pairsA pairsL pairsC, .int .i64 x4] hv10 →
      cnd (decide (x4 < ((firstL : Nat) : Int)))
        (∃ b5 o5, firstA = some ⟨b5, o5, none⟩ ∧ 0 ≤ x4 ∧ x4 < (firstL : Nat) ∧ ∃ x5 : Int, hcell hv10 b5 (o5 + (Int.toNat x4) * 1) = some (.int .i64 x5) ∧ ∃ (Iv3 : List Value → Heap → Prop) (m3 : List Value → Heap → Nat), Iv3 [.slice pairsA pairsL pairsC, .int .i64 0] hv10 ∧ -- loop 4: ['pairs', '53'] []
        ∀ (pairsA2 : Option Addr) (pairsL2 pairsC2 : Nat), ∀ x6 : Int, ∀ hv11, Iv3 [.slice pairsA2 pairsL2 pairsC2, .int .i64 x6] hv11 →
        cnd (decide (x6 < ((othersL : Nat) : Int)))
          (∃ b6 o6, othersA = some ⟨b6, o6, none⟩ ∧ 0 ≤ x6 ∧ x6 < (othersL : Nat) ∧ ∃ x7 : Int, hcell hv11 b6 (o6 + (Int.toNat x6) * 1) = some (.int .i64 x7) ∧ let hv12 : Heap := hv11.push (.cells #[.int .i64 x5, .int .i64 x7] 35)
          ∃ old3, Ownd hv12 35 2 pairsA2 pairsL2 pairsC2 old3 ∧ (∀ b ∈ ([hv11.size] : List Nat), b ∉ blkOf pairsA2) ∧ (pairsL2 + 1) * 16 ≤ 140737488355328 ∧ (pairsL2 + 1) ≤ maxLen ∧
          ∀ sA3 sC3 hv14, Ownd hv14 35 2 sA3 (pairsL2 + 1) sC3 (old3 ++ [.int .i64 x5, .int .i64 x7]) → Fr (blkOf pairsA2) hv12 hv14 → ((sA3 = pairsA2 ∧ sC3 = pairsC2) ∨ ∃ g, sA3 = some ⟨g, 0, none⟩ ∧ hv12.size ≤ g) → (pairsC2 < (pairsL2 + 1) → Fr [] hv12 hv14) →
          Iv3 [.slice sA3 (pairsL2 + 1) sC3, .int .i64 (IntKind.i64.wrap (x6 + (1 : Int)))] hv14 ∧ m3 [.slice sA3 (pairsL2 + 1) sC3, .int .i64 (IntKind.i64.wrap (x6 + (1 : Int)))] hv14 < m3 [.slice pairsA2 pairsL2 pairsC2, .int .i64 x6] hv11)
          (Iv2 [.slice pairsA2 pairsL2 pairsC2, .int .i64 (IntKind.i64.wrap (x4 + (1 : Int)))] hv11 ∧ m2 [.slice pairsA2 pairsL2 pairsC2, .int .i64 (IntKind.i64.wrap (x4 + (1 : Int)))] hv11 < m2 [.slice pairsA pairsL pairsC, .int .i64 x4] hv10))
        (∃ xs : List Value, Reads hv10 1 othersA othersL xs ∧ (othersA = none → othersC = 0) ∧ (∀ v ∈ xs, v.oneCell' = true) ∧ ∃ old4, Ownd hv10 3 1 firstA firstL firstC old4 ∧ (∀ b ∈ ([] : List Nat), b ∉ blkOf firstA) ∧ (firstL + othersL) * 8 ≤ 140737488355328 ∧ (firstL + othersL) ≤ maxLen ∧
        ∀ sA4 sC4 hv16, Ownd hv16 3 1 sA4 (firstL + othersL) sC4 (old4 ++ xs) → Fr (blkOf firstA) hv10 hv16 → ((sA4 = firstA ∧ sC4 = firstC) ∨ ∃ g, sA4 = some ⟨g, 0, none⟩ ∧ hv10.size ≤ g) → (firstC < (firstL + othersL) → Fr [] hv10 hv16) →
        ∃ b7 o7, fP = some ⟨b7, o7, none⟩ ∧ (∃ u, hcell hv16 b7 (o7 + 3) = some u) ∧ hfree hv16 b7 (o7 + 3) = true ∧ let hv17 : Heap := hset hv16 b7 (o7 + 3) (.slice sA4 (firstL + othersL) sC4)
        callX Try.prog 224 #[.pointer fP, .slice pairsA pairsL pairsC, .int .i64 33] hv17 [] fun v2 hv18 =>
        v2 = .tuple #[] ∧
        R (.tuple #[]) hv18)))
theorem calls210 {h : Heap} {R : Value → Heap → Prop} (fP : Option Addr) (H : S210 fP h R) : CallsH Try.prog 210 #[.pointer fP] h R := by
  have e : S210 fP h R = FX (envX [35, 39, 61] 74) { loops := [(0, ⟨[0, 20, 21], [2, 3, 22], [], []⟩), (2, ⟨[0, 2, 3, 45, 46], [6, 47], [], []⟩), (4, ⟨[0, 2, 3, 8, 45, 46, 47, 51, 52], [6, 53], [], []⟩)], joins := [(32, ⟨[0, 20, 21, 22], [2, 3], [], []⟩)], blocks := [], draws := [] } Try.f210 (Try.f210.body.getD .skip) [.pointer fP] h R := by kernel_rfl
  exact calls_of_FX (envX_ok _ _) Try.func210 (by kernel_rfl) (by kernel_rfl) (by kernel_rfl) (e ▸ H)
end Go.Proofs.Ytmcloipjlihhlaa
