/- Functions: what is left to be shown of each, over memory and without: printed by program, tied to the loaded functions by the kernel. Conditions: none. -/
import Derived.Test.YtmcloipjlihhlaaSEnv
import Derived.Test.YtmcloipjlihhlaaYMore
import Derived.Test.YtmcloipjlihhlaaTRef4
import Derived.Test.YtmcloipjlihhlaaYRg
namespace Go.Proofs.Ytmcloipjlihhlaa.N
open Go.Proofs.Ytmcloipjlihhlaa
open Go.X
set_option maxRecDepth 100000
set_option linter.unusedVariables false
set_option linter.unusedSimpArgs false
set_option maxHeartbeats 2000000

/-- (*tracery/tracerylaw4.run).plays -/
def S108 (rP : Option Addr) (o : Int) (o2 : Int) (o3 : Int) (o4 : Int) (h : Heap) (R : Value → Heap → Prop) : Prop :=
  let hv : Heap := h.push (.cells #[.int .i64 o, .int .i64 o2, .int .i64 o3, .int .i64 o4] 130)
  cnd (o == (1 : Int))
    (∃ b o5, rP = some ⟨b, o5, none⟩ ∧ ∃ xP : Option Addr, hcell hv b o5 = some (.pointer xP) ∧ callX Try.prog 97 #[.pointer xP] hv [h.size] fun v hv2 =>
    ∃ ra : Int, ∃ rb : Int, v = .tuple #[.int .i64 ra, .int .i64 rb] ∧
    ∃ b2 o6, rP = some ⟨b2, o6, none⟩ ∧ ∃ xP2 : Option Addr, hcell hv2 b2 (o6 + 1) = some (.pointer xP2) ∧ callX Try.prog 186 #[.pointer xP2] hv2 [h.size] fun v2 hv3 =>
    ∃ ra2 : Int, ∃ rb2 : Int, v2 = .tuple #[.int .i64 ra2, .int .i64 rb2] ∧
    cnd (ra == ra2)
      (R (.bool (rb == rb2)) hv3)
      (R (.bool false) hv3))
    (cnd (o == (2 : Int))
      (∃ Mv : List Nat, (∀ b ∈ ([h.size] : List Nat), b ∉ Mv) ∧
      ∃ b3 o7, rP = some ⟨b3, o7, none⟩ ∧ ∃ xP3 : Option Addr, hcell hv b3 o7 = some (.pointer xP3) ∧ callX Try.prog 98 #[.pointer xP3, .int .i64 o2, .int .i64 o3] hv [h.size] fun v3 hv4 =>
      ∃ ra3 : Int, ∃ rb3 : Int, v3 = .tuple #[.int .i64 ra3, .int .i64 rb3] ∧
      Fr Mv hv hv4 ∧
      ∃ Mv2 : List Nat, (∀ b ∈ ([h.size] : List Nat), b ∉ Mv2) ∧
      ∃ b4 o8, rP = some ⟨b4, o8, none⟩ ∧ ∃ xP4 : Option Addr, hcell hv4 b4 (o8 + 1) = some (.pointer xP4) ∧ callX Try.prog 187 #[.pointer xP4, .int .i64 o2, .int .i64 o3] hv4 [h.size] fun v4 hv5 =>
      ∃ ra4 : Int, ∃ rb4 : Int, v4 = .tuple #[.int .i64 ra4, .int .i64 rb4] ∧
      Fr Mv2 hv4 hv5 ∧
      cnd (ra3 == ra4)
        (R (.bool (rb3 == rb4)) hv5)
        (R (.bool false) hv5))
      (cnd (o == (3 : Int))
        (∃ Mv3 : List Nat, (∀ b ∈ ([h.size] : List Nat), b ∉ Mv3) ∧
        ∃ b5 o9, rP = some ⟨b5, o9, none⟩ ∧ ∃ xP5 : Option Addr, hcell hv b5 o9 = some (.pointer xP5) ∧ callX Try.prog 99 #[.pointer xP5, .int .i64 o2] hv [h.size] fun v5 hv6 =>
        ∃ ra5 : Int, ∃ rb5 : Int, v5 = .tuple #[.int .i64 ra5, .int .i64 rb5] ∧
        Fr Mv3 hv hv6 ∧
        ∃ Mv4 : List Nat, (∀ b ∈ ([h.size] : List Nat), b ∉ Mv4) ∧
        ∃ b6 o10, rP = some ⟨b6, o10, none⟩ ∧ ∃ xP6 : Option Addr, hcell hv6 b6 (o10 + 1) = some (.pointer xP6) ∧ callX Try.prog 188 #[.pointer xP6, .int .i64 o2] hv6 [h.size] fun v6 hv7 =>
        ∃ ra6 : Int, ∃ rb6 : Int, v6 = .tuple #[.int .i64 ra6, .int .i64 rb6] ∧
        Fr Mv4 hv6 hv7 ∧
        cnd (ra5 == ra6)
          (R (.bool (rb5 == rb6)) hv7)
          (R (.bool false) hv7))
        (cnd (o == (4 : Int))
          (∃ Mv5 : List Nat, (∀ b ∈ ([h.size] : List Nat), b ∉ Mv5) ∧
          ∃ b7 o11, rP = some ⟨b7, o11, none⟩ ∧ b7 ∉ Mv5 ∧ ∃ xP7 : Option Addr, hcell hv b7 o11 = some (.pointer xP7) ∧ ∃ b8 o12, rP = some ⟨b8, o12, none⟩ ∧ b8 ∉ Mv5 ∧ ∃ xP8 : Option Addr, hcell hv b8 (o12 + 1) = some (.pointer xP8) ∧ callX Try.prog 102 #[.pointer xP7, .int .i64 o2] hv [h.size] fun v7 hv8 =>
          ∃ r : Int, v7 = .int .i64 r ∧
          Fr Mv5 hv hv8 ∧
          callX Try.prog 189 #[.pointer xP8, .int .i64 o2] hv8 [h.size] fun v8 hv9 =>
          ∃ r2 : Int, v8 = .int .i64 r2 ∧
          Fr Mv5 hv hv9 ∧
          R (.bool (r == r2)) hv9)
          (cnd (o == (5 : Int))
            (∃ Mv6 : List Nat, (∀ b ∈ ([h.size] : List Nat), b ∉ Mv6) ∧
            ∃ b9 o13, rP = some ⟨b9, o13, none⟩ ∧ ∃ xP9 : Option Addr, hcell hv b9 o13 = some (.pointer xP9) ∧ callX Try.prog 77 #[.pointer xP9, .int .i64 o2] hv [h.size] fun v9 hv10 =>
            ∃ ra7 : Int, ∃ rb7 : Int, ∃ rc : Int, v9 = .tuple #[.int .i64 ra7, .int .i64 rb7, .int .i64 rc] ∧
            Fr Mv6 hv hv10 ∧
            ∃ Mv7 : List Nat, (∀ b ∈ ([h.size] : List Nat), b ∉ Mv7) ∧
            ∃ b10 o14, rP = some ⟨b10, o14, none⟩ ∧ ∃ xP10 : Option Addr, hcell hv10 b10 (o14 + 1) = some (.pointer xP10) ∧ callX Try.prog 190 #[.pointer xP10, .int .i64 o2] hv10 [h.size] fun v10 hv11 =>
            ∃ ra8 : Int, ∃ rb8 : Int, ∃ rc2 : Int, v10 = .tuple #[.int .i64 ra8, .int .i64 rb8, .int .i64 rc2] ∧
            Fr Mv7 hv10 hv11 ∧
            cnd (ra7 == ra8)
              (cnd (rb7 == rb8)
                (R (.bool (rc == rc2)) hv11)
                (R (.bool false) hv11))
              (R (.bool false) hv11))
            (cnd (o == (6 : Int))
              (∃ Mv8 : List Nat, (∀ b ∈ ([h.size] : List Nat), b ∉ Mv8) ∧
              ∃ b11 o15, rP = some ⟨b11, o15, none⟩ ∧ ∃ xP11 : Option Addr, hcell hv b11 o15 = some (.pointer xP11) ∧ callX Try.prog 78 #[.pointer xP11, .int .i64 o2] hv [h.size] fun v11 hv12 =>
              ∃ ra9 : Int, ∃ rb9 : Int, v11 = .tuple #[.int .i64 ra9, .int .i64 rb9] ∧
              Fr Mv8 hv hv12 ∧
              ∃ Mv9 : List Nat, (∀ b ∈ ([h.size] : List Nat), b ∉ Mv9) ∧
              ∃ b12 o16, rP = some ⟨b12, o16, none⟩ ∧ ∃ xP12 : Option Addr, hcell hv12 b12 (o16 + 1) = some (.pointer xP12) ∧ callX Try.prog 191 #[.pointer xP12, .int .i64 o2] hv12 [h.size] fun v12 hv13 =>
              ∃ ra10 : Int, ∃ rb10 : Int, v12 = .tuple #[.int .i64 ra10, .int .i64 rb10] ∧
              Fr Mv9 hv12 hv13 ∧
              cnd (ra9 == ra10)
                (R (.bool (rb9 == rb10)) hv13)
                (R (.bool false) hv13))
              (cnd (o == (7 : Int))
                (∃ Mv10 : List Nat, (∀ b ∈ ([h.size] : List Nat), b ∉ Mv10) ∧
                ∃ b13 o17, rP = some ⟨b13, o17, none⟩ ∧ b13 ∉ Mv10 ∧ ∃ xP13 : Option Addr, hcell hv b13 o17 = some (.pointer xP13) ∧ ∃ b14 o18, rP = some ⟨b14, o18, none⟩ ∧ b14 ∉ Mv10 ∧ ∃ xP14 : Option Addr, hcell hv b14 (o18 + 1) = some (.pointer xP14) ∧ callX Try.prog 103 #[.pointer xP13, .int .i64 o2, .int .i64 o3, .int .i64 o4] hv [h.size] fun v13 hv14 =>
                ∃ r3 : Int, v13 = .int .i64 r3 ∧
                Fr Mv10 hv hv14 ∧
                callX Try.prog 192 #[.pointer xP14, .int .i64 o2, .int .i64 o3, .int .i64 o4] hv14 [h.size] fun v14 hv15 =>
                ∃ r4 : Int, v14 = .int .i64 r4 ∧
                Fr Mv10 hv hv15 ∧
                R (.bool (r3 == r4)) hv15)
                (cnd (o == (8 : Int))
                  (∃ Mv11 : List Nat, (∀ b ∈ ([h.size] : List Nat), b ∉ Mv11) ∧
                  ∃ b15 o19, rP = some ⟨b15, o19, none⟩ ∧ ∃ xP15 : Option Addr, hcell hv b15 o19 = some (.pointer xP15) ∧ callX Try.prog 76 #[.pointer xP15, .int .i64 o2] hv [h.size] fun v15 hv16 =>
                  ∃ ra11 : Int, ∃ rb11 : Int, ∃ rc3 : Int, v15 = .tuple #[.int .i64 ra11, .int .i64 rb11, .int .i64 rc3] ∧
                  Fr Mv11 hv hv16 ∧
                  ∃ Mv12 : List Nat, (∀ b ∈ ([h.size] : List Nat), b ∉ Mv12) ∧
                  ∃ b16 o20, rP = some ⟨b16, o20, none⟩ ∧ ∃ xP16 : Option Addr, hcell hv16 b16 (o20 + 1) = some (.pointer xP16) ∧ callX Try.prog 193 #[.pointer xP16, .int .i64 o2] hv16 [h.size] fun v16 hv17 =>
                  ∃ ra12 : Int, ∃ rb12 : Int, ∃ rc4 : Int, v16 = .tuple #[.int .i64 ra12, .int .i64 rb12, .int .i64 rc4] ∧
                  Fr Mv12 hv16 hv17 ∧
                  cnd (ra11 == ra12)
                    (cnd (rb11 == rb12)
                      (R (.bool (rc3 == rc4)) hv17)
                      (R (.bool false) hv17))
                    (R (.bool false) hv17))
                  (cnd (o == (9 : Int))
                    (callX Try.prog 194 #[.pointer rP, .int .i64 o2] hv [h.size] fun v17 hv18 =>
                    ∃ r5 : Bool, v17 = .bool r5 ∧
                    R (.bool r5) hv18)
                    (cnd (o == (10 : Int))
                      (∃ b17 o21, rP = some ⟨b17, o21, none⟩ ∧ ∃ xP17 : Option Addr, hcell hv b17 o21 = some (.pointer xP17) ∧ callX Try.prog 101 #[.pointer xP17] hv [h.size] fun v18 hv19 =>
                      ∃ r6 : Int, v18 = .int .i64 r6 ∧
                      ∃ b18 o22, rP = some ⟨b18, o22, none⟩ ∧ ∃ (xA : Option Addr) (xL xC : Nat), hcell hv19 b18 (o22 + 2) = some (.slice xA xL xC) ∧ let hv20 : Heap := hv19.push (.cells #[.int .i64 r6] 3)
                      ∃ old, Ownd hv20 3 1 xA xL xC old ∧ (∀ b ∈ ([hv19.size, h.size] : List Nat), b ∉ blkOf xA) ∧ (xL + 1) * 8 ≤ 140737488355328 ∧ (xL + 1) ≤ maxLen ∧
                      ∀ sA sC hv21, Ownd hv21 3 1 sA (xL + 1) sC (old ++ [.int .i64 r6]) → Fr (blkOf xA) hv20 hv21 → ((sA = xA ∧ sC = xC) ∨ ∃ g, sA = some ⟨g, 0, none⟩ ∧ hv20.size ≤ g) → (xC < (xL + 1) → Fr [] hv20 hv21) →
                      ∃ b19 o23, rP = some ⟨b19, o23, none⟩ ∧ b19 ≠ hv19.size ∧ b19 ≠ h.size ∧ (∃ u, hcell hv21 b19 (o23 + 2) = some u) ∧ hfree hv21 b19 (o23 + 2) = true ∧ let hv22 : Heap := hset hv21 b19 (o23 + 2) (.slice sA (xL + 1) sC)
                      ∃ b20 o24, rP = some ⟨b20, o24, none⟩ ∧ ∃ xP18 : Option Addr, hcell hv22 b20 (o24 + 1) = some (.pointer xP18) ∧ callX Try.prog 195 #[.pointer xP18] hv22 [hv19.size, h.size] fun v19 hv23 =>
                      ∃ r7 : Int, v19 = .int .i64 r7 ∧
                      R (.bool (r6 == r7)) hv23)
                      (cnd (o == (11 : Int))
                        (cnd (decide (o2 ≥ (0 : Int)))
                          (∃ b21 o25, rP = some ⟨b21, o25, none⟩ ∧ ∃ (xA2 : Option Addr) (xL2 xC2 : Nat), hcell hv b21 (o25 + 2) = some (.slice xA2 xL2 xC2) ∧ ∃ Jv : List Value → Heap → Prop, -- join 318 ['m']
                          ( cnd (decide (((xL2 : Nat) : Int) > (0 : Int)))
                             (∃ Mv13 : List Nat, (∀ b ∈ ([h.size] : List Nat), b ∉ Mv13) ∧
                             ∃ b22 o26, rP = some ⟨b22, o26, none⟩ ∧ ∃ (xA3 : Option Addr) (xL3 xC3 : Nat), hcell hv b22 (o26 + 2) = some (.slice xA3 xL3 xC3) ∧ ∃ b23 o27, rP = some ⟨b23, o27, none⟩ ∧ ∃ (xA4 : Option Addr) (xL4 xC4 : Nat), hcell hv b23 (o27 + 2) = some (.slice xA4 xL4 xC4) ∧ ((xL4 : Nat) : Int) ≠ 0 ∧ ∃ b24 o28, xA3 = some ⟨b24, o28, none⟩ ∧ 0 ≤ (Int.tmod o2 ((xL4 : Nat) : Int)) ∧ (Int.tmod o2 ((xL4 : Nat) : Int)) < (xL3 : Nat) ∧ ∃ x : Int, hcell hv b24 (o28 + (Int.toNat (Int.tmod o2 ((xL4 : Nat) : Int))) * 1) = some (.int .i64 x) ∧ Jv [.int .i64 x] hv)
                             (Jv [.int .i64 o2] hv)) ∧
                          ∀ m : Int, ∀ hv24, Jv [.int .i64 m] hv24 →
                          ∃ Mv14 : List Nat, (∀ b ∈ ([] : List Nat), b ∉ Mv14) ∧
                          ∃ b25 o29, rP = some ⟨b25, o29, none⟩ ∧ b25 ∉ Mv14 ∧ ∃ xP19 : Option Addr, hcell hv24 b25 o29 = some (.pointer xP19) ∧ ∃ b26 o30, rP = some ⟨b26, o30, none⟩ ∧ b26 ∉ Mv14 ∧ ∃ xP20 : Option Addr, hcell hv24 b26 (o30 + 1) = some (.pointer xP20) ∧ callX Try.prog 104 #[.pointer xP19, .int .i64 m] hv24 [] fun v20 hv25 =>
                          ∃ r8 : Int, v20 = .int .i64 r8 ∧
                          Fr Mv14 hv24 hv25 ∧
                          callX Try.prog 196 #[.pointer xP20, .int .i64 m] hv25 [] fun v21 hv26 =>
                          ∃ r9 : Int, v21 = .int .i64 r9 ∧
                          Fr Mv14 hv24 hv26 ∧
                          R (.bool (r8 == r9)) hv26)
                          (∃ Mv15 : List Nat, (∀ b ∈ ([h.size] : List Nat), b ∉ Mv15) ∧
                          ∃ b27 o31, rP = some ⟨b27, o31, none⟩ ∧ b27 ∉ Mv15 ∧ ∃ xP21 : Option Addr, hcell hv b27 o31 = some (.pointer xP21) ∧ ∃ b28 o32, rP = some ⟨b28, o32, none⟩ ∧ b28 ∉ Mv15 ∧ ∃ xP22 : Option Addr, hcell hv b28 (o32 + 1) = some (.pointer xP22) ∧ callX Try.prog 104 #[.pointer xP21, .int .i64 o2] hv [h.size] fun v22 hv27 =>
                          ∃ r10 : Int, v22 = .int .i64 r10 ∧
                          Fr Mv15 hv hv27 ∧
                          callX Try.prog 196 #[.pointer xP22, .int .i64 o2] hv27 [h.size] fun v23 hv28 =>
                          ∃ r11 : Int, v23 = .int .i64 r11 ∧
                          Fr Mv15 hv hv28 ∧
                          R (.bool (r10 == r11)) hv28))
                        (∃ Jv2 : List Value → Heap → Prop, -- join 346 []
                        ( cnd (o == (12 : Int))
                           (∃ b29 o33, rP = some ⟨b29, o33, none⟩ ∧ ∃ xP23 : Option Addr, hcell hv b29 o33 = some (.pointer xP23) ∧ callX Try.prog 105 #[.pointer xP23] hv [h.size] fun v24 hv29 =>
                           ∃ rP2 : Option Addr, v24 = .pointer rP2 ∧
                           cnd (Option.isNone rP2)
                             (R (.bool false) hv29)
                             (∃ b30 o34, rP = some ⟨b30, o34, none⟩ ∧ ∃ xP24 : Option Addr, hcell hv29 b30 o34 = some (.pointer xP24) ∧ callX Try.prog 97 #[.pointer xP24] hv29 [h.size] fun v25 hv30 =>
                             ∃ ra13 : Int, ∃ rb13 : Int, v25 = .tuple #[.int .i64 ra13, .int .i64 rb13] ∧
                             ∃ b31 o35, rP = some ⟨b31, o35, none⟩ ∧ ∃ xP25 : Option Addr, hcell hv30 b31 o35 = some (.pointer xP25) ∧ callX Try.prog 99 #[.pointer xP25, .int .i64 1] hv30 [h.size] fun v26 hv31 =>
                             ∃ ra14 : Int, ∃ rb14 : Int, v26 = .tuple #[.int .i64 ra14, .int .i64 rb14] ∧
                             ∃ b32 o36, rP = some ⟨b32, o36, none⟩ ∧ ∃ xP26 : Option Addr, hcell hv31 b32 o36 = some (.pointer xP26) ∧ callX Try.prog 101 #[.pointer xP26] hv31 [h.size] fun v27 hv32 =>
                             ∃ r12 : Int, v27 = .int .i64 r12 ∧
                             ∃ b33 o37, rP = some ⟨b33, o37, none⟩ ∧ b33 ≠ h.size ∧ (∃ u, hcell hv32 b33 o37 = some u) ∧ hfree hv32 b33 o37 = true ∧ let hv33 : Heap := hset hv32 b33 o37 (.pointer rP2)
                             Jv2 [] hv33))
                           (Jv2 [] hv)) ∧
                        ∀ hv34, Jv2 [] hv34 →
                        R (.bool true) hv34)))))))))))
theorem calls108 {h : Heap} {R : Value → Heap → Prop} (rP : Option Addr) (o : Int) (o2 : Int) (o3 : Int) (o4 : Int) (H : S108 rP o o2 o3 o4 h R) : CallsH Try.prog 108 #[.pointer rP, .agg #[.int .i64 o, .int .i64 o2, .int .i64 o3, .int .i64 o4]] h R := by
  have e : S108 rP o o2 o3 o4 h R = FX (envX [3, 293] 374) { loops := [], joins := [(318, ⟨[0], [34], [], []⟩), (346, ⟨[], [], [], []⟩)], blocks := [], draws := [(7, ⟨14, true⟩), (8, ⟨14, true⟩), (11, ⟨12, true⟩), (12, ⟨12, true⟩), (15, ⟨16, true⟩), (17, ⟨14, true⟩), (18, ⟨14, true⟩), (21, ⟨12, true⟩), (22, ⟨12, true⟩), (25, ⟨24, true⟩), (27, ⟨14, true⟩), (28, ⟨14, true⟩), (39, ⟨15, true⟩), (40, ⟨14, true⟩)] } Try.f108 (Try.f108.body.getD .skip) [.pointer rP, .agg #[.int .i64 o, .int .i64 o2, .int .i64 o3, .int .i64 o4]] h R := by kernel_rfl
  exact calls_of_FX (envX_ok _ _) Try.func108 (by kernel_rfl) (by kernel_rfl) (by kernel_rfl) (e ▸ H)
/-- (*tracery/traceryref4.Graph).Mark -/
def S195 (gP : Option Addr) (h : Heap) (R : Value → Heap → Prop) : Prop :=
  ∃ b o, gP = some ⟨b, o, none⟩ ∧ ∃ (xA : Option Addr) (xL xC : Nat), hcell h b (o + 4) = some (.slice xA xL xC) ∧ cnd (((xL : Nat) : Int) == (64 : Int))
    (R (.int .i64 0) h)
    (∃ b2 o2, gP = some ⟨b2, o2, none⟩ ∧ ∃ x : Int, hcell h b2 (o2 + 5) = some (.int .i64 x) ∧ ∃ b3 o3, gP = some ⟨b3, o3, none⟩ ∧ (∃ u, hcell h b3 (o3 + 5) = some u) ∧ hfree h b3 (o3 + 5) = true ∧ let hv : Heap := hset h b3 (o3 + 5) (.int .i64 (IntKind.i64.wrap (x + (1 : Int))))
    ∃ Mv : List Nat, (∀ b ∈ ([] : List Nat), b ∉ Mv) ∧
    ∃ b4 o4, gP = some ⟨b4, o4, none⟩ ∧ b4 ∉ Mv ∧ ∃ (xA2 : Option Addr) (xL2 xC2 : Nat), hcell hv b4 (o4 + 4) = some (.slice xA2 xL2 xC2) ∧ ∃ b5 o5, gP = some ⟨b5, o5, none⟩ ∧ b5 ∉ Mv ∧ ∃ x2 : Int, hcell hv b5 (o5 + 5) = some (.int .i64 x2) ∧ ∃ b6 o6, gP = some ⟨b6, o6, none⟩ ∧ b6 ∉ Mv ∧ ∃ (xA3 : Option Addr) (xL3 xC3 : Nat), hcell hv b6 o6 = some (.slice xA3 xL3 xC3) ∧ ∃ (xA4 : Option Addr) (xL4 xC4 : Nat), hcell hv b6 (o6 + 1) = some (.slice xA4 xL4 xC4) ∧ ∃ x3 : Int, hcell hv b6 ((o6 + 1) + 1) = some (.int .i64 x3) ∧ ∃ x4 : Int, hcell hv b6 (((o6 + 1) + 1) + 1) = some (.int .i64 x4) ∧ callX Try.prog 220 #[.agg #[.slice xA3 xL3 xC3, .slice xA4 xL4 xC4, .int .i64 x3, .int .i64 x4]] hv [] fun v hv2 =>
    ∃ (rA : Option Addr) (rL rC : Nat), ∃ (rA2 : Option Addr) (rL2 rC2 : Nat), ∃ r : Int, ∃ r2 : Int, v = .agg #[.slice rA rL rC, .slice rA2 rL2 rC2, .int .i64 r, .int .i64 r2] ∧
    Fr Mv hv hv2 ∧
    let hv3 : Heap := hv2.push (.cells #[.int .i64 x2, .slice rA rL rC, .slice rA2 rL2 rC2, .int .i64 r, .int .i64 r2] 243)
    Fr Mv hv hv3 ∧
    ∃ old, Ownd hv3 243 5 xA2 xL2 xC2 old ∧ (∀ b ∈ ([hv2.size] : List Nat), b ∉ blkOf xA2) ∧ (xL2 + 1) * 72 ≤ 140737488355328 ∧ (xL2 + 1) ≤ maxLen ∧
    ∀ sA sC hv4, Ownd hv4 243 5 sA (xL2 + 1) sC (old ++ [.int .i64 x2, .slice rA rL rC, .slice rA2 rL2 rC2, .int .i64 r, .int .i64 r2]) → Fr (blkOf xA2) hv3 hv4 → ((sA = xA2 ∧ sC = xC2) ∨ ∃ g, sA = some ⟨g, 0, none⟩ ∧ hv3.size ≤ g) → (xC2 < (xL2 + 1) → Fr [] hv3 hv4) →
    Fr Mv hv hv4 ∧
    ∃ b7 o7, gP = some ⟨b7, o7, none⟩ ∧ b7 ≠ hv2.size ∧ (∃ u, hcell hv4 b7 (o7 + 4) = some u) ∧ hfree hv4 b7 (o7 + 4) = true ∧ let hv5 : Heap := hset hv4 b7 (o7 + 4) (.slice sA (xL2 + 1) sC)
    ∃ b8 o8, gP = some ⟨b8, o8, none⟩ ∧ ∃ x5 : Int, hcell hv5 b8 (o8 + 5) = some (.int .i64 x5) ∧ R (.int .i64 x5) hv5)
theorem calls195 {h : Heap} {R : Value → Heap → Prop} (gP : Option Addr) (H : S195 gP h R) : CallsH Try.prog 195 #[.pointer gP] h R := by
  have e : S195 gP h R = FX (envX [31] 39) { loops := [], joins := [], blocks := [], draws := [(4, ⟨17, true⟩)] } Try.f195 (Try.f195.body.getD .skip) [.pointer gP] h R := by kernel_rfl
  exact calls_of_FX (envX_ok _ _) Try.func195 (by kernel_rfl) (by kernel_rfl) (by kernel_rfl) (e ▸ H)
/-- (*tracery/traceryref4.Graph).Back -/
def S196 (gP : Option Addr) (mark : Int) (h : Heap) (R : Value → Heap → Prop) : Prop :=
  ∃ (Iv : List Value → Heap → Prop) (m : List Value → Heap → Nat), Iv [.int .i64 0] h ∧ -- loop 0: ['i']
  ∀ i : Int, ∀ hv, Iv [.int .i64 i] hv →
  ∃ b o, gP = some ⟨b, o, none⟩ ∧ ∃ (xA : Option Addr) (xL xC : Nat), hcell hv b (o + 4) = some (.slice xA xL xC) ∧ cnd (decide (i < ((xL : Nat) : Int)))
    (∃ b2 o2, gP = some ⟨b2, o2, none⟩ ∧ ∃ (xA2 : Option Addr) (xL2 xC2 : Nat), hcell hv b2 (o2 + 4) = some (.slice xA2 xL2 xC2) ∧ ∃ b3 o3, xA2 = some ⟨b3, o3, none⟩ ∧ 0 ≤ i ∧ i < (xL2 : Nat) ∧ ∃ x : Int, hcell hv b3 (o3 + (Int.toNat i) * 5) = some (.int .i64 x) ∧ cnd (x == mark)
      (∃ b4 o4, gP = some ⟨b4, o4, none⟩ ∧ ∃ (xA3 : Option Addr) (xL3 xC3 : Nat), hcell hv b4 (o4 + 4) = some (.slice xA3 xL3 xC3) ∧ ∃ b5 o5, xA3 = some ⟨b5, o5, none⟩ ∧ 0 ≤ i ∧ i < (xL3 : Nat) ∧ ∃ (xA4 : Option Addr) (xL4 xC4 : Nat), hcell hv b5 ((o5 + (Int.toNat i) * 5) + 1) = some (.slice xA4 xL4 xC4) ∧ ∃ (xA5 : Option Addr) (xL5 xC5 : Nat), hcell hv b5 (((o5 + (Int.toNat i) * 5) + 1) + 1) = some (.slice xA5 xL5 xC5) ∧ ∃ x2 : Int, hcell hv b5 ((((o5 + (Int.toNat i) * 5) + 1) + 1) + 1) = some (.int .i64 x2) ∧ ∃ x3 : Int, hcell hv b5 (((((o5 + (Int.toNat i) * 5) + 1) + 1) + 1) + 1) = some (.int .i64 x3) ∧ callX Try.prog 220 #[.agg #[.slice xA4 xL4 xC4, .slice xA5 xL5 xC5, .int .i64 x2, .int .i64 x3]] hv [] fun v hv2 =>
      ∃ (rA : Option Addr) (rL rC : Nat), ∃ (rA2 : Option Addr) (rL2 rC2 : Nat), ∃ r : Int, ∃ r2 : Int, v = .agg #[.slice rA rL rC, .slice rA2 rL2 rC2, .int .i64 r, .int .i64 r2] ∧
      ∃ b6 o6, gP = some ⟨b6, o6, none⟩ ∧ (∃ u, hcell hv2 b6 o6 = some u) ∧ hfree hv2 b6 o6 = true ∧ (∃ u, hcell hv2 b6 (o6 + 1) = some u) ∧ hfree hv2 b6 (o6 + 1) = true ∧ (∃ u, hcell hv2 b6 ((o6 + 1) + 1) = some u) ∧ hfree hv2 b6 ((o6 + 1) + 1) = true ∧ (∃ u, hcell hv2 b6 (((o6 + 1) + 1) + 1) = some u) ∧ hfree hv2 b6 (((o6 + 1) + 1) + 1) = true ∧ let hv3 : Heap := hset (hset (hset (hset hv2 b6 o6 (.slice rA rL rC)) b6 (o6 + 1) (.slice rA2 rL2 rC2)) b6 ((o6 + 1) + 1) (.int .i64 r)) b6 (((o6 + 1) + 1) + 1) (.int .i64 r2)
      ∃ b7 o7, gP = some ⟨b7, o7, none⟩ ∧ ∃ (xA6 : Option Addr) (xL6 xC6 : Nat), hcell hv3 b7 (o7 + 4) = some (.slice xA6 xL6 xC6) ∧ 0 ≤ (IntKind.i64.wrap (i + (1 : Int))) ∧ (IntKind.i64.wrap (i + (1 : Int))) ≤ (xC6 : Nat) ∧ ∃ b8 o8, gP = some ⟨b8, o8, none⟩ ∧ (∃ u, hcell hv3 b8 (o8 + 4) = some u) ∧ hfree hv3 b8 (o8 + 4) = true ∧ let hv4 : Heap := hset hv3 b8 (o8 + 4) (.slice (if xC6 = 0 then xA6 else Option.map (fun addr => Addr.add addr (0 * 5)) xA6) ((Int.toNat (IntKind.i64.wrap (i + (1 : Int)))) - 0) (xC6 - 0))
      R (.int .i64 0) hv4)
      (Iv [.int .i64 (IntKind.i64.wrap (i + (1 : Int)))] hv ∧ m [.int .i64 (IntKind.i64.wrap (i + (1 : Int)))] hv < m [.int .i64 i] hv))
    (R (.int .i64 14) hv)
theorem calls196 {h : Heap} {R : Value → Heap → Prop} (gP : Option Addr) (mark : Int) (H : S196 gP mark h R) : CallsH Try.prog 196 #[.pointer gP, .int .i64 mark] h R := by
  have e : S196 gP mark h R = FX (envX [] 47) { loops := [(0, ⟨[0, 1], [5], [], []⟩)], joins := [], blocks := [], draws := [] } Try.f196 (Try.f196.body.getD .skip) [.pointer gP, .int .i64 mark] h R := by kernel_rfl
  exact calls_of_FX (envX_ok _ _) Try.func196 (by kernel_rfl) (by kernel_rfl) (by kernel_rfl) (e ▸ H)
/-- (*tracery/traceryref4.Graph).AddNode -/
def Ok186 (gD : RG) (R : RG → Int → Int → Prop) : Prop :=
  ∀ (h : Heap) (gB2 : Nat) (gS : List Nat), Hp h [Ck.rg gB2 gS gD] → CallsH Try.prog 186 #[.pointer (some ⟨gB2, 0, none⟩)] h fun v h' => ∃ (gS2 : List Nat) (gD1 : RG) (raV : Int) (rbV : Int), Sy h (owns [Ck.rg gB2 gS gD]) h' [Ck.rg gB2 gS2 gD1] ∧ v = .tuple #[.int .i64 raV, .int .i64 rbV] ∧ R gD1 raV rbV
theorem Ok186.mono {gD} {R R' : RG → Int → Int → Prop} (H : Ok186 gD R) (kz : ∀ gD1 raV rbV, R gD1 raV rbV → R' gD1 raV rbV) : Ok186 gD R' :=
  fun h gB2 gS hp => (H h gB2 gS hp).mono fun _ _ ⟨gS2, gD1, raV, rbV, P, e, q⟩ => ⟨gS2, gD1, raV, rbV, P, e, kz _ _ _ q⟩
/-- (*tracery/traceryref4.Graph).AddEdge -/
def Ok187 (gD : RG) (u : Int) (v : Int) (R : RG → Int → Int → Prop) : Prop :=
  ∀ (h : Heap) (gB2 : Nat) (gS : List Nat), Hp h [Ck.rg gB2 gS gD] → CallsH Try.prog 187 #[.pointer (some ⟨gB2, 0, none⟩), .int .i64 u, .int .i64 v] h fun v h' => ∃ (gS2 : List Nat) (gD1 : RG) (raV : Int) (rbV : Int), Sy h (owns [Ck.rg gB2 gS gD]) h' [Ck.rg gB2 gS2 gD1] ∧ v = .tuple #[.int .i64 raV, .int .i64 rbV] ∧ R gD1 raV rbV
theorem Ok187.mono {gD u v} {R R' : RG → Int → Int → Prop} (H : Ok187 gD u v R) (kz : ∀ gD1 raV rbV, R gD1 raV rbV → R' gD1 raV rbV) : Ok187 gD u v R' :=
  fun h gB2 gS hp => (H h gB2 gS hp).mono fun _ _ ⟨gS2, gD1, raV, rbV, P, e, q⟩ => ⟨gS2, gD1, raV, rbV, P, e, kz _ _ _ q⟩
/-- (*tracery/traceryref4.Graph).DropNode -/
def Ok188 (gD : RG) (v : Int) (R : RG → Int → Int → Prop) : Prop :=
  ∀ (h : Heap) (gB2 : Nat) (gS : List Nat), Hp h [Ck.rg gB2 gS gD] → CallsH Try.prog 188 #[.pointer (some ⟨gB2, 0, none⟩), .int .i64 v] h fun v h' => ∃ (gS2 : List Nat) (gD1 : RG) (raV : Int) (rbV : Int), Sy h (owns [Ck.rg gB2 gS gD]) h' [Ck.rg gB2 gS2 gD1] ∧ v = .tuple #[.int .i64 raV, .int .i64 rbV] ∧ R gD1 raV rbV
theorem Ok188.mono {gD v} {R R' : RG → Int → Int → Prop} (H : Ok188 gD v R) (kz : ∀ gD1 raV rbV, R gD1 raV rbV → R' gD1 raV rbV) : Ok188 gD v R' :=
  fun h gB2 gS hp => (H h gB2 gS hp).mono fun _ _ ⟨gS2, gD1, raV, rbV, P, e, q⟩ => ⟨gS2, gD1, raV, rbV, P, e, kz _ _ _ q⟩
/-- (*tracery/traceryref4.Graph).DropEdge -/
def Ok189 (gD : RG) (ev : Int) (R : RG → Int → Prop) : Prop :=
  ∀ (h : Heap) (gB2 : Nat) (gS : List Nat), Hp h [Ck.rg gB2 gS gD] → CallsH Try.prog 189 #[.pointer (some ⟨gB2, 0, none⟩), .int .i64 ev] h fun v h' => ∃ (gS2 : List Nat) (gD1 : RG) (rV : Int), Sy h (owns [Ck.rg gB2 gS gD]) h' [Ck.rg gB2 gS2 gD1] ∧ v = .int .i64 rV ∧ R gD1 rV
theorem Ok189.mono {gD ev} {R R' : RG → Int → Prop} (H : Ok189 gD ev R) (kz : ∀ gD1 rV, R gD1 rV → R' gD1 rV) : Ok189 gD ev R' :=
  fun h gB2 gS hp => (H h gB2 gS hp).mono fun _ _ ⟨gS2, gD1, rV, P, e, q⟩ => ⟨gS2, gD1, rV, P, e, kz _ _ q⟩
/-- (*tracery/traceryref4.Graph).Split -/
def Ok190 (gD : RG) (ev : Int) (R : RG → Int → Int → Int → Prop) : Prop :=
  ∀ (h : Heap) (gB2 : Nat) (gS : List Nat), Hp h [Ck.rg gB2 gS gD] → CallsH Try.prog 190 #[.pointer (some ⟨gB2, 0, none⟩), .int .i64 ev] h fun v h' => ∃ (gS2 : List Nat) (gD1 : RG) (raV : Int) (rbV : Int) (rcV : Int), Sy h (owns [Ck.rg gB2 gS gD]) h' [Ck.rg gB2 gS2 gD1] ∧ v = .tuple #[.int .i64 raV, .int .i64 rbV, .int .i64 rcV] ∧ R gD1 raV rbV rcV
theorem Ok190.mono {gD ev} {R R' : RG → Int → Int → Int → Prop} (H : Ok190 gD ev R) (kz : ∀ gD1 raV rbV rcV, R gD1 raV rbV rcV → R' gD1 raV rbV rcV) : Ok190 gD ev R' :=
  fun h gB2 gS hp => (H h gB2 gS hp).mono fun _ _ ⟨gS2, gD1, raV, rbV, rcV, P, e, q⟩ => ⟨gS2, gD1, raV, rbV, rcV, P, e, kz _ _ _ _ q⟩
/-- (*tracery/traceryref4.Graph).Unsplit -/
def Ok191 (gD : RG) (v : Int) (R : RG → Int → Int → Prop) : Prop :=
  ∀ (h : Heap) (gB2 : Nat) (gS : List Nat), Hp h [Ck.rg gB2 gS gD] → CallsH Try.prog 191 #[.pointer (some ⟨gB2, 0, none⟩), .int .i64 v] h fun v h' => ∃ (gS2 : List Nat) (gD1 : RG) (raV : Int) (rbV : Int), Sy h (owns [Ck.rg gB2 gS gD]) h' [Ck.rg gB2 gS2 gD1] ∧ v = .tuple #[.int .i64 raV, .int .i64 rbV] ∧ R gD1 raV rbV
theorem Ok191.mono {gD v} {R R' : RG → Int → Int → Prop} (H : Ok191 gD v R) (kz : ∀ gD1 raV rbV, R gD1 raV rbV → R' gD1 raV rbV) : Ok191 gD v R' :=
  fun h gB2 gS hp => (H h gB2 gS hp).mono fun _ _ ⟨gS2, gD1, raV, rbV, P, e, q⟩ => ⟨gS2, gD1, raV, rbV, P, e, kz _ _ _ q⟩
/-- (*tracery/traceryref4.Graph).Move -/
def Ok192 (gD : RG) (ev : Int) (endv : Int) (v : Int) (R : RG → Int → Prop) : Prop :=
  ∀ (h : Heap) (gB2 : Nat) (gS : List Nat), Hp h [Ck.rg gB2 gS gD] → CallsH Try.prog 192 #[.pointer (some ⟨gB2, 0, none⟩), .int .i64 ev, .int .i64 endv, .int .i64 v] h fun v h' => ∃ (gS2 : List Nat) (gD1 : RG) (rV : Int), Sy h (owns [Ck.rg gB2 gS gD]) h' [Ck.rg gB2 gS2 gD1] ∧ v = .int .i64 rV ∧ R gD1 rV
theorem Ok192.mono {gD ev endv v} {R R' : RG → Int → Prop} (H : Ok192 gD ev endv v R) (kz : ∀ gD1 rV, R gD1 rV → R' gD1 rV) : Ok192 gD ev endv v R' :=
  fun h gB2 gS hp => (H h gB2 gS hp).mono fun _ _ ⟨gS2, gD1, rV, P, e, q⟩ => ⟨gS2, gD1, rV, P, e, kz _ _ q⟩
/-- (*tracery/traceryref4.Graph).Ends -/
def Ok193 (gD : RG) (ev : Int) (R : RG → Int → Int → Int → Prop) : Prop :=
  ∀ (h : Heap) (gB2 : Nat) (gS : List Nat), Hp h [Ck.rg gB2 gS gD] → CallsH Try.prog 193 #[.pointer (some ⟨gB2, 0, none⟩), .int .i64 ev] h fun v h' => ∃ (gS2 : List Nat) (gD1 : RG) (raV : Int) (rbV : Int) (rcV : Int), Sy h (owns [Ck.rg gB2 gS gD]) h' [Ck.rg gB2 gS2 gD1] ∧ v = .tuple #[.int .i64 raV, .int .i64 rbV, .int .i64 rcV] ∧ R gD1 raV rbV rcV
theorem Ok193.mono {gD ev} {R R' : RG → Int → Int → Int → Prop} (H : Ok193 gD ev R) (kz : ∀ gD1 raV rbV rcV, R gD1 raV rbV rcV → R' gD1 raV rbV rcV) : Ok193 gD ev R' :=
  fun h gB2 gS hp => (H h gB2 gS hp).mono fun _ _ ⟨gS2, gD1, raV, rbV, rcV, P, e, q⟩ => ⟨gS2, gD1, raV, rbV, rcV, P, e, kz _ _ _ _ q⟩
/-- (*tracery/traceryref4.Graph).Net -/
def Ok197 (gD : RG) (R : RG → Int → List (Int × Int) → List Int → List Int → Prop) : Prop :=
  ∀ (h : Heap) (gB2 : Nat) (gS : List Nat), Hp h [Ck.rg gB2 gS gD] → CallsH Try.prog 197 #[.pointer (some ⟨gB2, 0, none⟩)] h fun v h' => ∃ (gS2 : List Nat) (gD1 : RG) (nV : Int) (edgesVA : Option Addr) (edgesVL edgesVC : Nat) (edgesV : List (Int × Int)) (rbVA : Option Addr) (rbVL rbVC : Nat) (rbV : List Int) (rcVA : Option Addr) (rcVL rcVC : Nat) (rcV : List Int), Sy h (owns [Ck.rg gB2 gS gD]) h' [Ck.rg gB2 gS2 gD1, Ck.sl eP 35 edgesVA edgesVL edgesVC edgesV, Ck.sl eI 3 rbVA rbVL rbVC rbV, Ck.sl eI 3 rcVA rcVL rcVC rcV] ∧ v = .tuple #[.agg #[.int .i64 nV, .slice edgesVA edgesVL edgesVC], .slice rbVA rbVL rbVC, .slice rcVA rcVL rcVC] ∧ R gD1 nV edgesV rbV rcV
theorem Ok197.mono {gD} {R R' : RG → Int → List (Int × Int) → List Int → List Int → Prop} (H : Ok197 gD R) (kz : ∀ gD1 nV edgesV rbV rcV, R gD1 nV edgesV rbV rcV → R' gD1 nV edgesV rbV rcV) : Ok197 gD R' :=
  fun h gB2 gS hp => (H h gB2 gS hp).mono fun _ _ ⟨gS2, gD1, nV, edgesVA, edgesVL, edgesVC, edgesV, rbVA, rbVL, rbVC, rbV, rcVA, rcVL, rcVC, rcV, P, e, q⟩ => ⟨gS2, gD1, nV, edgesVA, edgesVL, edgesVC, edgesV, rbVA, rbVL, rbVC, rbV, rcVA, rcVL, rcVC, rcV, P, e, kz _ _ _ _ _ q⟩
/-- (*tracery/traceryref4.Graph).Mark -/
def Ok195 (gD : RG) (R : RG → Int → Prop) : Prop :=
  ∀ (h : Heap) (gB2 : Nat) (gS : List Nat), Hp h [Ck.rg gB2 gS gD] → CallsH Try.prog 195 #[.pointer (some ⟨gB2, 0, none⟩)] h fun v h' => ∃ (gS2 : List Nat) (gD1 : RG) (rV : Int), Sy h (owns [Ck.rg gB2 gS gD]) h' [Ck.rg gB2 gS2 gD1] ∧ v = .int .i64 rV ∧ R gD1 rV
theorem Ok195.mono {gD} {R R' : RG → Int → Prop} (H : Ok195 gD R) (kz : ∀ gD1 rV, R gD1 rV → R' gD1 rV) : Ok195 gD R' :=
  fun h gB2 gS hp => (H h gB2 gS hp).mono fun _ _ ⟨gS2, gD1, rV, P, e, q⟩ => ⟨gS2, gD1, rV, P, e, kz _ _ q⟩
/-- (*tracery/traceryref4.Graph).Back -/
def Ok196 (gD : RG) (mark : Int) (R : RG → Int → Prop) : Prop :=
  ∀ (h : Heap) (gB2 : Nat) (gS : List Nat), Hp h [Ck.rg gB2 gS gD] → CallsH Try.prog 196 #[.pointer (some ⟨gB2, 0, none⟩), .int .i64 mark] h fun v h' => ∃ (gS2 : List Nat) (gD1 : RG) (rV : Int), Sy h (owns [Ck.rg gB2 gS gD]) h' [Ck.rg gB2 gS2 gD1] ∧ v = .int .i64 rV ∧ R gD1 rV
theorem Ok196.mono {gD mark} {R R' : RG → Int → Prop} (H : Ok196 gD mark R) (kz : ∀ gD1 rV, R gD1 rV → R' gD1 rV) : Ok196 gD mark R' :=
  fun h gB2 gS hp => (H h gB2 gS hp).mono fun _ _ ⟨gS2, gD1, rV, P, e, q⟩ => ⟨gS2, gD1, rV, P, e, kz _ _ q⟩
end Go.Proofs.Ytmcloipjlihhlaa.N
