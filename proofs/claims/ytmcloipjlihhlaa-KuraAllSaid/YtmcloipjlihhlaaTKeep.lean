/- Functions: what is left to be shown of each, over memory and without: printed by program, tied to the loaded functions by the kernel. Conditions: none. -/
import Derived.Test.YtmcloipjlihhlaaSEnv
import Derived.Test.YtmcloipjlihhlaaYMore
import Derived.Test.YtmcloipjlihhlaaTNet
import Derived.Test.YtmcloipjlihhlaaYKeep
namespace Go.Proofs.Ytmcloipjlihhlaa.N
open Go.Proofs.Ytmcloipjlihhlaa
open Go.X
set_option maxRecDepth 100000
set_option linter.unusedVariables false
set_option linter.unusedSimpArgs false
set_option maxHeartbeats 2000000

/-- tracery/tracerylaw3.Twin -/
def Ok63 (g : Int) (edgesV : List (Int × Int)) (R : Int → List (Int × Int) → Prop) : Prop :=
  ∀ (h : Heap) (gA : Option Addr) (gL gC : Nat), Hp h [Ck.vw eP gA gL gC edgesV] → CallsH Try.prog 63 #[.agg #[.int .i64 g, .slice gA gL gC]] h fun v h' => ∃ (nV : Int) (edgesVA : Option Addr) (edgesVL edgesVC : Nat) (edgesV2 : List (Int × Int)), Sy h [] h' [Ck.slm eP 35 edgesVA edgesVL edgesVC edgesV2 [(-7, 7)]] ∧ v = .agg #[.int .i64 nV, .slice edgesVA edgesVL edgesVC] ∧ R nV edgesV2
theorem Ok63.mono {g edgesV} {R R' : Int → List (Int × Int) → Prop} (H : Ok63 g edgesV R) (kz : ∀ nV edgesV2, R nV edgesV2 → R' nV edgesV2) : Ok63 g edgesV R' :=
  fun h gA gL gC hp => (H h gA gL gC hp).mono fun _ _ ⟨nV, edgesVA, edgesVL, edgesVC, edgesV2, P, e, q⟩ => ⟨nV, edgesVA, edgesVL, edgesVC, edgesV2, P, e, kz _ _ q⟩
/-- (*tracery/tracerylaw3.Ints).Keep -/
def Ok70 (lV : List (List Int)) (sizeV : Int) (lsV : List (List Int)) (R : List (List Int) → Int → Prop) : Prop :=
  ∀ (h : Heap) (bB : Nat) (lVA : Option Addr) (lVL lVC : Nat) (lH : List RowH) (lsA : Option Addr) (lsL lsC : Nat) (lsH : List RowH), Hp h [Ck.ob bB 90 [.slice lVA lVL lVC, .int .i64 sizeV], Ck.rows eI 40 3 lVA lVL lVC lH lV, Ck.rows eI 40 3 lsA lsL lsC lsH lsV] → CallsH Try.prog 70 #[.pointer (some ⟨bB, 0, none⟩), .slice lsA lsL lsC] h fun v h' => ∃ (lVA2 : Option Addr) (lVL2 lVC2 : Nat) (lH2 : List RowH) (lV1 : List (List Int)) (sizeV2 : Int), Sy h (owns [Ck.ob bB 90 [.slice lVA lVL lVC, .int .i64 sizeV], Ck.rows eI 40 3 lVA lVL lVC lH lV, Ck.rows eI 40 3 lsA lsL lsC lsH lsV]) h' [Ck.ob bB 90 [.slice lVA2 lVL2 lVC2, .int .i64 sizeV2], Ck.rows eI 40 3 lVA2 lVL2 lVC2 lH2 lV1] ∧ v = .tuple #[] ∧ R lV1 sizeV2
theorem Ok70.mono {lV sizeV lsV} {R R' : List (List Int) → Int → Prop} (H : Ok70 lV sizeV lsV R) (kz : ∀ lV1 sizeV2, R lV1 sizeV2 → R' lV1 sizeV2) : Ok70 lV sizeV lsV R' :=
  fun h bB lVA lVL lVC lH lsA lsL lsC lsH hp => (H h bB lVA lVL lVC lH lsA lsL lsC lsH hp).mono fun _ _ ⟨lVA2, lVL2, lVC2, lH2, lV1, sizeV2, P, e, q⟩ => ⟨lVA2, lVL2, lVC2, lH2, lV1, sizeV2, P, e, kz _ _ q⟩
/-- (*tracery/tracerylaw3.Ints).Apart -/
def S72 (bP : Option Addr) (h : Heap) (R : Value → Heap → Prop) : Prop :=
  ∃ (Iv : List Value → Heap → Prop) (m : List Value → Heap → Nat), Iv [.int .i64 0] h ∧ -- loop 0: ['i']
  ∀ i : Int, ∀ hv, Iv [.int .i64 i] hv →
  ∃ b o, bP = some ⟨b, o, none⟩ ∧ ∃ (xA : Option Addr) (xL xC : Nat), hcell hv b o = some (.slice xA xL xC) ∧ cnd (decide (i < ((xL : Nat) : Int)))
    (∃ b2 o2, bP = some ⟨b2, o2, none⟩ ∧ ∃ (xA2 : Option Addr) (xL2 xC2 : Nat), hcell hv b2 o2 = some (.slice xA2 xL2 xC2) ∧ ∃ b3 o3, xA2 = some ⟨b3, o3, none⟩ ∧ 0 ≤ i ∧ i < (xL2 : Nat) ∧ ∃ (xA3 : Option Addr) (xL3 xC3 : Nat), hcell hv b3 (o3 + (Int.toNat i) * 1) = some (.slice xA3 xL3 xC3) ∧ ∃ b4 o4, bP = some ⟨b4, o4, none⟩ ∧ ∃ (xA4 : Option Addr) (xL4 xC4 : Nat), hcell hv b4 o4 = some (.slice xA4 xL4 xC4) ∧ ∃ b5 o5, xA4 = some ⟨b5, o5, none⟩ ∧ 0 ≤ i ∧ i < (xL4 : Nat) ∧ ∃ (xA5 : Option Addr) (xL5 xC5 : Nat), hcell hv b5 (o5 + (Int.toNat i) * 1) = some (.slice xA5 xL5 xC5) ∧ callX Try.prog 139 #[.int .i64 ((xL3 : Nat) : Int), .int .i64 ((xC5 : Nat) : Int)] hv [] fun v hv2 =>
    ∃ r : Int, v = .int .i64 r ∧
    Fr [] hv hv2 ∧
    ∃ (Iv2 : List Value → Heap → Prop) (m2 : List Value → Heap → Nat), Iv2 [] hv2 ∧ -- loop 2: []
    ∀ hv3, Iv2 [] hv3 →
    ∃ b6 o6, bP = some ⟨b6, o6, none⟩ ∧ ∃ (xA6 : Option Addr) (xL6 xC6 : Nat), hcell hv3 b6 o6 = some (.slice xA6 xL6 xC6) ∧ ∃ b7 o7, xA6 = some ⟨b7, o7, none⟩ ∧ 0 ≤ i ∧ i < (xL6 : Nat) ∧ ∃ (xA7 : Option Addr) (xL7 xC7 : Nat), hcell hv3 b7 (o7 + (Int.toNat i) * 1) = some (.slice xA7 xL7 xC7) ∧ cnd (decide (((xL7 : Nat) : Int) < r))
      (∃ Mv : List Nat, (∀ b ∈ ([] : List Nat), b ∉ Mv) ∧
      ∃ b8 o8, bP = some ⟨b8, o8, none⟩ ∧ b8 ∉ Mv ∧ ∃ (xA8 : Option Addr) (xL8 xC8 : Nat), hcell hv3 b8 o8 = some (.slice xA8 xL8 xC8) ∧ ∃ b9 o9, bP = some ⟨b9, o9, none⟩ ∧ b9 ∉ Mv ∧ ∃ (xA9 : Option Addr) (xL9 xC9 : Nat), hcell hv3 b9 o9 = some (.slice xA9 xL9 xC9) ∧ ∃ b10 o10, xA9 = some ⟨b10, o10, none⟩ ∧ 0 ≤ i ∧ i < (xL9 : Nat) ∧ b10 ∉ Mv ∧ ∃ (xA10 : Option Addr) (xL10 xC10 : Nat), hcell hv3 b10 (o10 + (Int.toNat i) * 1) = some (.slice xA10 xL10 xC10) ∧ let hv4 : Heap := hv3.push (.cells #[.int .i64 0] 3)
      Fr Mv hv3 hv4 ∧
      ∃ old, Ownd hv4 3 1 xA10 xL10 xC10 old ∧ (∀ b ∈ ([hv3.size] : List Nat), b ∉ blkOf xA10) ∧ (xL10 + 1) * 8 ≤ 140737488355328 ∧ (xL10 + 1) ≤ maxLen ∧
      ∀ sA sC hv5, Ownd hv5 3 1 sA (xL10 + 1) sC (old ++ [.int .i64 0]) → Fr (blkOf xA10) hv4 hv5 → ((sA = xA10 ∧ sC = xC10) ∨ ∃ g, sA = some ⟨g, 0, none⟩ ∧ hv4.size ≤ g) → (xC10 < (xL10 + 1) → Fr [] hv4 hv5) →
      Fr Mv hv3 hv5 ∧
      ∃ b11 o11, xA8 = some ⟨b11, o11, none⟩ ∧ 0 ≤ i ∧ i < (xL8 : Nat) ∧ b11 ≠ hv3.size ∧ (∃ u, hcell hv5 b11 (o11 + (Int.toNat i) * 1) = some u) ∧ hfree hv5 b11 (o11 + (Int.toNat i) * 1) = true ∧ let hv6 : Heap := hset hv5 b11 (o11 + (Int.toNat i) * 1) (.slice sA (xL10 + 1) sC)
      Iv2 [] hv6 ∧ m2 [] hv6 < m2 [] hv3)
      (∃ (Iv3 : List Value → Heap → Prop) (m3 : List Value → Heap → Nat), Iv3 [.int .i64 0] hv3 ∧ -- loop 4: ['k']
      ∀ k : Int, ∀ hv7, Iv3 [.int .i64 k] hv7 →
      ∃ b12 o12, bP = some ⟨b12, o12, none⟩ ∧ ∃ (xA11 : Option Addr) (xL11 xC11 : Nat), hcell hv7 b12 o12 = some (.slice xA11 xL11 xC11) ∧ ∃ b13 o13, xA11 = some ⟨b13, o13, none⟩ ∧ 0 ≤ i ∧ i < (xL11 : Nat) ∧ ∃ (xA12 : Option Addr) (xL12 xC12 : Nat), hcell hv7 b13 (o13 + (Int.toNat i) * 1) = some (.slice xA12 xL12 xC12) ∧ cnd (decide (k < ((xL12 : Nat) : Int)))
        (∃ b14 o14, bP = some ⟨b14, o14, none⟩ ∧ ∃ (xA13 : Option Addr) (xL13 xC13 : Nat), hcell hv7 b14 o14 = some (.slice xA13 xL13 xC13) ∧ ∃ b15 o15, xA13 = some ⟨b15, o15, none⟩ ∧ 0 ≤ i ∧ i < (xL13 : Nat) ∧ ∃ (xA14 : Option Addr) (xL14 xC14 : Nat), hcell hv7 b15 (o15 + (Int.toNat i) * 1) = some (.slice xA14 xL14 xC14) ∧ ∃ b16 o16, xA14 = some ⟨b16, o16, none⟩ ∧ 0 ≤ k ∧ k < (xL14 : Nat) ∧ (∃ u, hcell hv7 b16 (o16 + (Int.toNat k) * 1) = some u) ∧ hfree hv7 b16 (o16 + (Int.toNat k) * 1) = true ∧ let hv8 : Heap := hset hv7 b16 (o16 + (Int.toNat k) * 1) (.int .i64 (IntKind.i64.wrap (((-1000) : Int) - i)))
        Iv3 [.int .i64 (IntKind.i64.wrap (k + (1 : Int)))] hv8 ∧ m3 [.int .i64 (IntKind.i64.wrap (k + (1 : Int)))] hv8 < m3 [.int .i64 k] hv7)
        (Iv [.int .i64 (IntKind.i64.wrap (i + (1 : Int)))] hv7 ∧ m [.int .i64 (IntKind.i64.wrap (i + (1 : Int)))] hv7 < m [.int .i64 i] hv)))
    (∃ (Iv4 : List Value → Heap → Prop) (m4 : List Value → Heap → Nat), Iv4 [.int .i64 0] hv ∧ -- loop 6: ['i']
    ∀ i2 : Int, ∀ hv9, Iv4 [.int .i64 i2] hv9 →
    ∃ b17 o17, bP = some ⟨b17, o17, none⟩ ∧ ∃ (xA15 : Option Addr) (xL15 xC15 : Nat), hcell hv9 b17 o17 = some (.slice xA15 xL15 xC15) ∧ cnd (decide (i2 < ((xL15 : Nat) : Int)))
      (∃ (Iv5 : List Value → Heap → Prop) (m5 : List Value → Heap → Nat), Iv5 [.int .i64 0] hv9 ∧ -- loop 8: ['k']
      ∀ k2 : Int, ∀ hv10, Iv5 [.int .i64 k2] hv10 →
      ∃ b18 o18, bP = some ⟨b18, o18, none⟩ ∧ ∃ (xA16 : Option Addr) (xL16 xC16 : Nat), hcell hv10 b18 o18 = some (.slice xA16 xL16 xC16) ∧ ∃ b19 o19, xA16 = some ⟨b19, o19, none⟩ ∧ 0 ≤ i2 ∧ i2 < (xL16 : Nat) ∧ ∃ (xA17 : Option Addr) (xL17 xC17 : Nat), hcell hv10 b19 (o19 + (Int.toNat i2) * 1) = some (.slice xA17 xL17 xC17) ∧ cnd (decide (k2 < ((xL17 : Nat) : Int)))
        (∃ b20 o20, bP = some ⟨b20, o20, none⟩ ∧ ∃ (xA18 : Option Addr) (xL18 xC18 : Nat), hcell hv10 b20 o20 = some (.slice xA18 xL18 xC18) ∧ ∃ b21 o21, xA18 = some ⟨b21, o21, none⟩ ∧ 0 ≤ i2 ∧ i2 < (xL18 : Nat) ∧ ∃ (xA19 : Option Addr) (xL19 xC19 : Nat), hcell hv10 b21 (o21 + (Int.toNat i2) * 1) = some (.slice xA19 xL19 xC19) ∧ ∃ b22 o22, xA19 = some ⟨b22, o22, none⟩ ∧ 0 ≤ k2 ∧ k2 < (xL19 : Nat) ∧ ∃ x : Int, hcell hv10 b22 (o22 + (Int.toNat k2) * 1) = some (.int .i64 x) ∧ cnd (x != (IntKind.i64.wrap (((-1000) : Int) - i2)))
          (R (.bool false) hv10)
          (Iv5 [.int .i64 (IntKind.i64.wrap (k2 + (1 : Int)))] hv10 ∧ m5 [.int .i64 (IntKind.i64.wrap (k2 + (1 : Int)))] hv10 < m5 [.int .i64 k2] hv10))
        (Iv4 [.int .i64 (IntKind.i64.wrap (i2 + (1 : Int)))] hv10 ∧ m4 [.int .i64 (IntKind.i64.wrap (i2 + (1 : Int)))] hv10 < m4 [.int .i64 i2] hv9))
      (R (.bool true) hv9))
theorem calls72 {h : Heap} {R : Value → Heap → Prop} (bP : Option Addr) (H : S72 bP h R) : CallsH Try.prog 72 #[.pointer bP] h R := by
  have e : S72 bP h R = FX (envX [56] 116) { loops := [(0, ⟨[0], [3], [], []⟩), (2, ⟨[0, 3, 4], [], [], []⟩), (4, ⟨[0, 3], [5], [], []⟩), (6, ⟨[0], [6], [], []⟩), (8, ⟨[0, 6], [7], [], []⟩)], joins := [], blocks := [], draws := [(4, ⟨18, false⟩), (6, ⟨14, true⟩)] } Try.f72 (Try.f72.body.getD .skip) [.pointer bP] h R := by kernel_rfl
  exact calls_of_FX (envX_ok _ _) Try.func72 (by kernel_rfl) (by kernel_rfl) (by kernel_rfl) (e ▸ H)
/-- (*tracery/tracerylaw3.Ints).Apart -/
def Ok72 (lV : List (List Int)) (sizeV : Int) (R : List (List Int) → Int → Bool → Prop) : Prop :=
  ∀ (h : Heap) (bB : Nat) (lVA : Option Addr) (lVL lVC : Nat) (lH : List RowH), Hp h [Ck.ob bB 90 [.slice lVA lVL lVC, .int .i64 sizeV], Ck.rows eI 40 3 lVA lVL lVC lH lV] → CallsH Try.prog 72 #[.pointer (some ⟨bB, 0, none⟩)] h fun v h' => ∃ (lVA2 : Option Addr) (lVL2 lVC2 : Nat) (lH2 : List RowH) (lV1 : List (List Int)) (sizeV2 : Int) (rV : Bool), Sy h (owns [Ck.ob bB 90 [.slice lVA lVL lVC, .int .i64 sizeV], Ck.rows eI 40 3 lVA lVL lVC lH lV]) h' [Ck.ob bB 90 [.slice lVA2 lVL2 lVC2, .int .i64 sizeV2], Ck.rows eI 40 3 lVA2 lVL2 lVC2 lH2 lV1] ∧ v = .bool rV ∧ R lV1 sizeV2 rV
theorem Ok72.mono {lV sizeV} {R R' : List (List Int) → Int → Bool → Prop} (H : Ok72 lV sizeV R) (kz : ∀ lV1 sizeV2 rV, R lV1 sizeV2 rV → R' lV1 sizeV2 rV) : Ok72 lV sizeV R' :=
  fun h bB lVA lVL lVC lH hp => (H h bB lVA lVL lVC lH hp).mono fun _ _ ⟨lVA2, lVL2, lVC2, lH2, lV1, sizeV2, rV, P, e, q⟩ => ⟨lVA2, lVL2, lVC2, lH2, lV1, sizeV2, rV, P, e, kz _ _ _ q⟩
def T72 (lV : List (List Int)) (sizeV : Int) (R : List (List Int) → Int → Bool → Prop) : Prop :=
  ∃ (Iv : Int → List (List Int) → Prop) (m : Int → List (List Int) → Nat), Iv 0 lV ∧
  ∀ i : Int, ∀ lV_2 : List (List Int), Iv i lV_2 →
  cnd (decide (i < ((lV_2.length : Nat) : Int)))
    (0 ≤ i ∧ i < ((lV_2.length : Nat) : Int) ∧ ∀ x_2 : List Int, lV_2[(Int.toNat i)]? = some x_2 → ∀ cap : Nat, x_2.length ≤ cap → Ok139 ((x_2.length : Nat) : Int) ((cap : Nat) : Int) (fun r =>
    ∃ (Iv2 : List (List Int) → Prop) (m2 : List (List Int) → Nat), Iv2 lV_2 ∧
    ∀ lV_3 : List (List Int), Iv2 lV_3 →
    0 ≤ i ∧ i < ((lV_3.length : Nat) : Int) ∧ ∀ x_3 : List Int, lV_3[(Int.toNat i)]? = some x_3 → cnd (decide (((x_3.length : Nat) : Int) < r))
      (0 ≤ i ∧ i < ((lV_3.length : Nat) : Int) ∧ ∀ x_4 : List Int, lV_3[(Int.toNat i)]? = some x_4 → (x_4.length + 1) < 1000000000000 ∧ Iv2 (lV_3.set (Int.toNat i) (x_4 ++ [0])) ∧ m2 (lV_3.set (Int.toNat i) (x_4 ++ [0])) < m2 lV_3)
      (∃ (Iv3 : Int → List (List Int) → Prop) (m3 : Int → List (List Int) → Nat), Iv3 0 lV_3 ∧
      ∀ k : Int, ∀ lV_4 : List (List Int), Iv3 k lV_4 →
      0 ≤ i ∧ i < ((lV_4.length : Nat) : Int) ∧ ∀ x_5 : List Int, lV_4[(Int.toNat i)]? = some x_5 → cnd (decide (k < ((x_5.length : Nat) : Int)))
        (0 ≤ k ∧ k < ((x_5.length : Nat) : Int) ∧ Iv3 (IntKind.i64.wrap (k + (1 : Int))) (lV_4.set (Int.toNat i) (x_5.set (Int.toNat k) (IntKind.i64.wrap (((-1000) : Int) - i)))) ∧ m3 (IntKind.i64.wrap (k + (1 : Int))) (lV_4.set (Int.toNat i) (x_5.set (Int.toNat k) (IntKind.i64.wrap (((-1000) : Int) - i)))) < m3 k lV_4)
        (Iv (IntKind.i64.wrap (i + (1 : Int))) lV_4 ∧ m (IntKind.i64.wrap (i + (1 : Int))) lV_4 < m i lV_2))))
    (∃ (Iv4 : Int → Prop) (m4 : Int → Nat), Iv4 0 ∧
    ∀ i2 : Int, Iv4 i2 →
    cnd (decide (i2 < ((lV_2.length : Nat) : Int)))
      (∃ (Iv5 : Int → Prop) (m5 : Int → Nat), Iv5 0 ∧
      ∀ k2 : Int, Iv5 k2 →
      0 ≤ i2 ∧ i2 < ((lV_2.length : Nat) : Int) ∧ ∀ x_7 : List Int, lV_2[(Int.toNat i2)]? = some x_7 → cnd (decide (k2 < ((x_7.length : Nat) : Int)))
        (0 ≤ k2 ∧ k2 < ((x_7.length : Nat) : Int) ∧ ∀ x_8 : Int, x_7[(Int.toNat k2)]? = some x_8 → cnd (x_8 != (IntKind.i64.wrap (((-1000) : Int) - i2)))
          (R lV_2 sizeV false)
          (Iv5 (IntKind.i64.wrap (k2 + (1 : Int))) ∧ m5 (IntKind.i64.wrap (k2 + (1 : Int))) < m5 k2))
        (Iv4 (IntKind.i64.wrap (i2 + (1 : Int))) ∧ m4 (IntKind.i64.wrap (i2 + (1 : Int))) < m4 i2))
      (R lV_2 sizeV true))
theorem ok72 {lV sizeV} {R : List (List Int) → Int → Bool → Prop} (T : T72 lV sizeV R) : Ok72 lV sizeV R := by
  intro h bB lVA lVL lVC lH H
  have Y : Sy h (owns [Ck.ob bB 90 [.slice lVA lVL lVC, .int .i64 sizeV], Ck.rows eI 40 3 lVA lVL lVC lH lV]) h _ := Sy.startM H rfl
  obtain rfl := Y.lenR 1 rfl
  apply calls72
  unfold S72
  unfold T72 at T
  obtain ⟨Iv, m, T0, T1⟩ := T
  obtain ⟨B, hB, YB⟩ := Y.cut [0, 1] [] rfl
  obtain ⟨F, hF⟩ := Y.fnO (k := 0) [0] rfl
  obtain ⟨JJ, hJJ⟩ : ∃ JJ : Nat → List Value → Heap → Prop, JJ = (fun k_2 lz h' => ∃ (i : Int) (cA : Option Addr) (cL cC : Nat) (lV_2H : List RowH) (lV_2 : List (List Int)), lz = [.int .i64 i] ∧ Sy h (owns [Ck.ob bB 90 [.slice lVA lV.length lVC, .int .i64 sizeV], Ck.rows eI 40 3 lVA lV.length lVC lH lV]) h' ([F [.slice cA cL cC], Ck.rows eI 40 3 cA cL cC lV_2H lV_2] ++ B) ∧ Iv i lV_2 ∧ m i lV_2 = k_2) := ⟨_, rfl⟩
  refine ⟨fun lz h' => ∃ k_2, JJ k_2 lz h', Lm JJ, ?_, ?_⟩
  · subst hJJ hB hF
    exact ⟨_, _, _, _, _, _, _, rfl, YB, T0, rfl⟩
  · clear YB T0 Y
    intro i hv hI
    obtain ⟨k_2, hI, hm⟩ := loopIn hI
    subst hJJ hB hF
    obtain ⟨i, cA, cL, cC, lV_2H, lV_2, e, Y, T, rfl⟩ := hI
    cases e
    obtain rfl := Y.lenR 1 rfl
    replace T := T1 i lV_2 T
    have Y : Sy _ _ _ [_, _] := Y
    refine ⟨bB, 0, rfl, ?_⟩
    refine ⟨_, _, _, Y.cellO 0 rfl 0 rfl, ?_⟩
    refine cnd_imp T (fun T => ?_) (fun T => ?_)
    · have Y0 := Y
      have F : Fr [] hv hv := Fr.refl _ _
      refine ⟨bB, 0, rfl, ?_⟩
      refine ⟨_, _, _, Y0.cellO 0 rfl 0 rfl, ?_⟩
      obtain ⟨q, q_2, T⟩ := T
      obtain ⟨b_2, hb, ho, x_2, hx, r_2, hr⟩ := Y0.atR 1 rfl q q_2
      refine ⟨b_2, 0, hb, q, q_2, ?_⟩
      replace T := T x_2 hx
      refine ⟨_, _, _, Y0.cellR 1 rfl hb hr hx, ?_⟩
      refine ⟨bB, 0, rfl, ?_⟩
      refine ⟨_, _, _, Y0.cellO 0 rfl 0 rfl, ?_⟩
      refine ⟨b_2, 0, hb, q, q_2, ?_⟩
      refine ⟨_, _, _, Y0.cellR 1 rfl hb hr hx, ?_⟩
      replace T := T _ (Y.rowS 1 rfl hr hx).cap.1
      refine callX_sy (T _ (Hp.nil _)) (fun _ _ ⟨_, p, _⟩ => p.fr) alln ?_
      rintro v hv2 ⟨r, PP, rfl, T⟩
      have F : Fr _ _ hv2 := F.trans PP.fr.nil
      have fshv2 := F.size
      have Y : Sy _ _ hv2 [_, _] := Y.gr PP.fr
      clear PP
      refine ⟨r, rfl, ?_⟩
      refine ⟨F, ?_⟩
      obtain ⟨Iv2, m2, T0, T1⟩ := T
      obtain ⟨B_2, hB_2, YB⟩ := Y.cut [0, 1] [] rfl
      obtain ⟨F_2, hF_2⟩ := Y.fnO (k := 0) [0] rfl
      obtain ⟨JJ_2, hJJ_2⟩ : ∃ JJ_2 : Nat → List Value → Heap → Prop, JJ_2 = (fun k_3 lz h' => ∃ (cA_2 : Option Addr) (cL_2 cC_2 : Nat) (lV_3H : List RowH) (lV_3 : List (List Int)), lz = [] ∧ Sy h (owns [Ck.ob bB 90 [.slice lVA lV.length lVC, .int .i64 sizeV], Ck.rows eI 40 3 lVA lV.length lVC lH lV]) h' ([F_2 [.slice cA_2 cL_2 cC_2], Ck.rows eI 40 3 cA_2 cL_2 cC_2 lV_3H lV_3] ++ B_2) ∧ Iv2 lV_3 ∧ m2 lV_3 = k_3) := ⟨_, rfl⟩
      refine ⟨fun lz h' => ∃ k_3, JJ_2 k_3 lz h', Lm JJ_2, ?_, ?_⟩
      · subst hJJ_2 hB_2 hF_2
        exact ⟨_, _, _, _, _, _, rfl, YB, T0, rfl⟩
      · clear YB T0 Y
        intro hv3 hI
        obtain ⟨k_3, hI, hm_2⟩ := loopIn hI
        subst hJJ_2 hB_2 hF_2
        obtain ⟨cA_2, cL_2, cC_2, lV_3H, lV_3, e, Y, T, rfl⟩ := hI
        cases e
        obtain rfl := Y.lenR 1 rfl
        replace T := T1 lV_3 T
        have Y : Sy _ _ _ [_, _] := Y
        refine ⟨bB, 0, rfl, ?_⟩
        refine ⟨_, _, _, Y.cellO 0 rfl 0 rfl, ?_⟩
        obtain ⟨q_3, q_4, T⟩ := T
        obtain ⟨b_3, hb_2, ho_2, x_3, hx_2, r_3, hr_2⟩ := Y.atR 1 rfl q_3 q_4
        refine ⟨b_3, 0, hb_2, q_3, q_4, ?_⟩
        replace T := T x_3 hx_2
        refine ⟨_, _, _, Y.cellR 1 rfl hb_2 hr_2 hx_2, ?_⟩
        refine cnd_imp T (fun T => ?_) (fun T => ?_)
        · have Y0 := Y
          obtain ⟨Mx, hMx⟩ := Y.mt [] [1]
          refine ⟨Mx, ?_⟩
          subst hMx
          refine ⟨alln, ?_⟩
          have F : Fr _ hv3 hv3 := Y0.frM [] [1]
          refine ⟨bB, 0, rfl, ?_⟩
          refine ⟨(Y0.nMo 0 [] [1] rfl rfl (by simp [Ck.ob])), ?_⟩
          refine ⟨_, _, _, Y0.cellO 0 rfl 0 rfl, ?_⟩
          refine ⟨bB, 0, rfl, ?_⟩
          refine ⟨(Y0.nMo 0 [] [1] rfl rfl (by simp [Ck.ob])), ?_⟩
          refine ⟨_, _, _, Y0.cellO 0 rfl 0 rfl, ?_⟩
          obtain ⟨q_5, q_6, T⟩ := T
          obtain ⟨b_4, hb_3, ho_3, x_4, hx_3, r_4, hr_3⟩ := Y0.atR 1 rfl q_5 q_6
          refine ⟨b_4, 0, hb_3, q_5, q_6, ?_⟩
          refine ⟨(Y0.nMr 1 [] [1] rfl rfl hb_3), ?_⟩
          replace T := T x_4 hx_3
          refine ⟨_, _, _, Y0.cellR 1 rfl hb_3 hr_3 hx_3, ?_⟩
          intro hv4
          have Y : Sy _ _ hv4 [_, _, _] := Y.junk _
          have F : Fr _ _ hv4 := F.pushr _
          have fshv4 := F.size
          clear_value hv4
          refine ⟨F, ?_⟩
          have Y : Sy _ _ _ [_, _, _, _] := Y.takeR 1 rfl hr_3 hx_3
          obtain ⟨q_7, T⟩ := T
          refine ⟨_, Y.ownS 3 rfl, (allc (Y.nJ 3 2 rfl rfl rfl) alln), by first | exact appB q_7 (by decide) | omega, by first | exact appM q_7 | (simp [maxLen]; omega), ?_⟩
          intro sA sC hv5 ow fA gA gB
          have Y : Sy _ _ hv5 [_, _, _, _] := Y.appS 3 rfl ([0] : List Int) ow fA gA rfl rfl
          have ns := F.appIn (Y0.inMr 1 [] [1] rfl rfl hr_3) gA fshv4
          have F : Fr _ _ hv5 := F.comp fA (Y0.inMr 1 [] [1] rfl rfl hr_3)
          have fshv5 := F.size
          refine ⟨F, ?_⟩
          refine ⟨b_3, 0, hb_2, q_3, q_4, ?_⟩
          refine ⟨(Y.neJ 1 2 rfl rfl rfl (memR hb_2)), (Y.cellRX 1 rfl hb_2 (by omega)), Y.freeR 1 rfl hb_2 _, ?_⟩
          intro hv6
          have Y : Sy _ _ hv6 [_, _, _, _] := Y.putX 1 3 rfl rfl hb_2 rfl (by omega)
          clear_value hv6
          exact loopBack hm_2 ⟨_, _, _, _, _, rfl, Y.pick [0, 1] rfl, T.1, rfl⟩ T.2
        · obtain ⟨Iv3, m3, T0, T1⟩ := T
          obtain ⟨B_3, hB_3, YB⟩ := Y.cut [0, 1] [] rfl
          obtain ⟨F_3, hF_3⟩ := Y.fnO (k := 0) [0] rfl
          obtain ⟨JJ_3, hJJ_3⟩ : ∃ JJ_3 : Nat → List Value → Heap → Prop, JJ_3 = (fun k_4 lz h' => ∃ (k : Int) (cA_3 : Option Addr) (cL_3 cC_3 : Nat) (lV_4H : List RowH) (lV_4 : List (List Int)), lz = [.int .i64 k] ∧ Sy h (owns [Ck.ob bB 90 [.slice lVA lV.length lVC, .int .i64 sizeV], Ck.rows eI 40 3 lVA lV.length lVC lH lV]) h' ([F_3 [.slice cA_3 cL_3 cC_3], Ck.rows eI 40 3 cA_3 cL_3 cC_3 lV_4H lV_4] ++ B_3) ∧ Iv3 k lV_4 ∧ m3 k lV_4 = k_4) := ⟨_, rfl⟩
          refine ⟨fun lz h' => ∃ k_4, JJ_3 k_4 lz h', Lm JJ_3, ?_, ?_⟩
          · subst hJJ_3 hB_3 hF_3
            exact ⟨_, _, _, _, _, _, _, rfl, YB, T0, rfl⟩
          · clear YB T0 Y
            intro k hv7 hI
            obtain ⟨k_4, hI, hm_3⟩ := loopIn hI
            subst hJJ_3 hB_3 hF_3
            obtain ⟨k, cA_3, cL_3, cC_3, lV_4H, lV_4, e, Y, T, rfl⟩ := hI
            cases e
            obtain rfl := Y.lenR 1 rfl
            replace T := T1 k lV_4 T
            have Y : Sy _ _ _ [_, _] := Y
            refine ⟨bB, 0, rfl, ?_⟩
            refine ⟨_, _, _, Y.cellO 0 rfl 0 rfl, ?_⟩
            obtain ⟨q_8, q_9, T⟩ := T
            obtain ⟨b_5, hb_4, ho_4, x_5, hx_4, r_5, hr_4⟩ := Y.atR 1 rfl q_8 q_9
            refine ⟨b_5, 0, hb_4, q_8, q_9, ?_⟩
            replace T := T x_5 hx_4
            refine ⟨_, _, _, Y.cellR 1 rfl hb_4 hr_4 hx_4, ?_⟩
            refine cnd_imp T (fun T => ?_) (fun T => ?_)
            · refine ⟨bB, 0, rfl, ?_⟩
              refine ⟨_, _, _, Y.cellO 0 rfl 0 rfl, ?_⟩
              refine ⟨b_5, 0, hb_4, q_8, q_9, ?_⟩
              refine ⟨_, _, _, Y.cellR 1 rfl hb_4 hr_4 hx_4, ?_⟩
              obtain ⟨q_10, q_11, T⟩ := T
              obtain ⟨b_6, hb_5, ho_5, x_6, hx_5⟩ := Y.atRow 1 rfl hr_4 hx_4 q_10 q_11
              refine ⟨b_6, 0, hb_5, q_10, q_11, ?_⟩
              refine ⟨⟨_, Y.cellRow 1 rfl hr_4 hx_4 hb_5 (t := 0) hx_5 rfl⟩, Y.freeRow 1 rfl hr_4 hx_4 hb_5 _, ?_⟩
              intro hv8
              have Y : Sy _ _ hv8 [_, _] := Y.stRow1 1 rfl hr_4 hx_4 hb_5 (IntKind.i64.wrap (((-1000) : Int) - i)) hx_5 rfl
              clear_value hv8
              exact loopBack hm_3 ⟨_, _, _, _, _, _, rfl, Y.pick [0, 1] rfl, T.1, rfl⟩ T.2
            · exact loopBack hm ⟨_, _, _, _, _, _, rfl, Y.pick [0, 1] rfl, T.1, rfl⟩ T.2
    · obtain ⟨Iv4, m4, T0, T1⟩ := T
      obtain ⟨B_4, hB_4, YB⟩ := Y.cut [] [0, 1] rfl
      obtain ⟨JJ_4, hJJ_4⟩ : ∃ JJ_4 : Nat → List Value → Heap → Prop, JJ_4 = (fun k_5 lz h' => ∃ (i2 : Int), lz = [.int .i64 i2] ∧ Sy h (owns [Ck.ob bB 90 [.slice lVA lV.length lVC, .int .i64 sizeV], Ck.rows eI 40 3 lVA lV.length lVC lH lV]) h' ([] ++ B_4) ∧ Iv4 i2 ∧ m4 i2 = k_5) := ⟨_, rfl⟩
      refine ⟨fun lz h' => ∃ k_5, JJ_4 k_5 lz h', Lm JJ_4, ?_, ?_⟩
      · subst hJJ_4 hB_4
        exact ⟨_, _, rfl, YB, T0, rfl⟩
      · clear YB T0 Y
        intro i2 hv9 hI
        obtain ⟨k_5, hI, hm_4⟩ := loopIn hI
        subst hJJ_4 hB_4
        obtain ⟨i2, e, Y, T, rfl⟩ := hI
        cases e
        replace T := T1 i2 T
        have Y : Sy _ _ _ [_, _] := Y
        refine ⟨bB, 0, rfl, ?_⟩
        refine ⟨_, _, _, Y.cellO 0 rfl 0 rfl, ?_⟩
        refine cnd_imp T (fun T => ?_) (fun T => ?_)
        · obtain ⟨Iv5, m5, T0, T1⟩ := T
          obtain ⟨B_5, hB_5, YB⟩ := Y.cut [] [0, 1] rfl
          obtain ⟨JJ_5, hJJ_5⟩ : ∃ JJ_5 : Nat → List Value → Heap → Prop, JJ_5 = (fun k_6 lz h' => ∃ (k2 : Int), lz = [.int .i64 k2] ∧ Sy h (owns [Ck.ob bB 90 [.slice lVA lV.length lVC, .int .i64 sizeV], Ck.rows eI 40 3 lVA lV.length lVC lH lV]) h' ([] ++ B_5) ∧ Iv5 k2 ∧ m5 k2 = k_6) := ⟨_, rfl⟩
          refine ⟨fun lz h' => ∃ k_6, JJ_5 k_6 lz h', Lm JJ_5, ?_, ?_⟩
          · subst hJJ_5 hB_5
            exact ⟨_, _, rfl, YB, T0, rfl⟩
          · clear YB T0 Y
            intro k2 hv10 hI
            obtain ⟨k_6, hI, hm_5⟩ := loopIn hI
            subst hJJ_5 hB_5
            obtain ⟨k2, e, Y, T, rfl⟩ := hI
            cases e
            replace T := T1 k2 T
            have Y : Sy _ _ _ [_, _] := Y
            refine ⟨bB, 0, rfl, ?_⟩
            refine ⟨_, _, _, Y.cellO 0 rfl 0 rfl, ?_⟩
            obtain ⟨q_12, q_13, T⟩ := T
            obtain ⟨b_7, hb_6, ho_6, x_7, hx_6, r_6, hr_5⟩ := Y.atR 1 rfl q_12 q_13
            refine ⟨b_7, 0, hb_6, q_12, q_13, ?_⟩
            replace T := T x_7 hx_6
            refine ⟨_, _, _, Y.cellR 1 rfl hb_6 hr_5 hx_6, ?_⟩
            refine cnd_imp T (fun T => ?_) (fun T => ?_)
            · refine ⟨bB, 0, rfl, ?_⟩
              refine ⟨_, _, _, Y.cellO 0 rfl 0 rfl, ?_⟩
              refine ⟨b_7, 0, hb_6, q_12, q_13, ?_⟩
              refine ⟨_, _, _, Y.cellR 1 rfl hb_6 hr_5 hx_6, ?_⟩
              obtain ⟨q_14, q_15, T⟩ := T
              obtain ⟨b_8, hb_7, ho_7, x_8, hx_7⟩ := Y.atRow 1 rfl hr_5 hx_6 q_14 q_15
              refine ⟨b_8, 0, hb_7, q_14, q_15, ?_⟩
              replace T := T x_8 hx_7
              refine ⟨_, Y.cellRow 1 rfl hr_5 hx_6 hb_7 (t := 0) hx_7 rfl, ?_⟩
              refine cnd_imp T (fun T => ?_) (fun T => ?_)
              · exact ⟨_, _, _, _, _, _, _, Y.pick [0, 1] rfl, rfl, T⟩
              · exact loopBack hm_5 ⟨_, rfl, Y.pick [0, 1] rfl, T.1, rfl⟩ T.2
            · exact loopBack hm_4 ⟨_, rfl, Y.pick [0, 1] rfl, T.1, rfl⟩ T.2
        · exact ⟨_, _, _, _, _, _, _, Y.pick [0, 1] rfl, rfl, T⟩
/-- tracery/tracerylaw3.Kept -/
def Ok73 (t : Int) (edgesV : List (Int × Int)) (g : Int) (edgesV2 : List (Int × Int)) (R : Bool → Prop) : Prop :=
  ∀ (h : Heap) (tA : Option Addr) (tL tC : Nat) (gA : Option Addr) (gL gC : Nat), Hp h [Ck.vwm eP tA tL tC edgesV [(-7, 7)], Ck.vw eP gA gL gC edgesV2] → CallsH Try.prog 73 #[.agg #[.int .i64 t, .slice tA tL tC], .agg #[.int .i64 g, .slice gA gL gC]] h fun v h' => ∃ (rV : Bool), Sy h [] h' [] ∧ v = .bool rV ∧ R rV
theorem Ok73.mono {t edgesV g edgesV2} {R R' : Bool → Prop} (H : Ok73 t edgesV g edgesV2 R) (kz : ∀ rV, R rV → R' rV) : Ok73 t edgesV g edgesV2 R' :=
  fun h tA tL tC gA gL gC hp => (H h tA tL tC gA gL gC hp).mono fun _ _ ⟨rV, P, e, q⟩ => ⟨rV, P, e, kz _ q⟩
end Go.Proofs.Ytmcloipjlihhlaa.N
