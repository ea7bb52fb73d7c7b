/- Functions: what is left to be shown of each, over memory and without: printed by program, tied to the loaded functions by the kernel. Conditions: none. -/
import Derived.Test.YtmcloipjlihhlaaSEnv
import Derived.Test.YtmcloipjlihhlaaYMore
import Derived.Test.YtmcloipjlihhlaaTRef
import Derived.Test.YtmcloipjlihhlaaTKeep
namespace Go.Proofs.Ytmcloipjlihhlaa.N
open Go.Proofs.Ytmcloipjlihhlaa
open Go.X
set_option maxRecDepth 100000
set_option linter.unusedVariables false
set_option linter.unusedSimpArgs false
set_option maxHeartbeats 2000000

/-- tracery/tracerylaw3.Light -/
def S59 (g : Int) (gA : Option Addr) (gL gC : Nat) (h : Heap) (R : Value → Heap → Prop) : Prop :=
  let hv : Heap := h.push (.cells #[.int .i64 g, .slice gA gL gC] 26)
  cnd (decide (((gL : Nat) : Int) ≤ (300 : Int)))
    (cnd (decide (g ≤ (300 : Int)))
      (R (.bool true) hv)
      (callX Try.prog 43 #[.agg #[.int .i64 g, .slice gA gL gC]] hv [h.size] fun v hv2 =>
      ∃ r : Bool, v = .bool r ∧
      R (.bool (!r)) hv2))
    (R (.bool false) hv)
theorem calls59 {h : Heap} {R : Value → Heap → Prop} (g : Int) (gA : Option Addr) (gL gC : Nat) (H : S59 g gA gL gC h R) : CallsH Try.prog 59 #[.agg #[.int .i64 g, .slice gA gL gC]] h R := by
  have e : S59 g gA gL gC h R = FX (envX [1] 17) { loops := [], joins := [], blocks := [], draws := [] } Try.f59 (Try.f59.body.getD .skip) [.agg #[.int .i64 g, .slice gA gL gC]] h R := by kernel_rfl
  exact calls_of_FX (envX_ok _ _) Try.func59 (by kernel_rfl) (by kernel_rfl) (by kernel_rfl) (e ▸ H)
/-- tracery/tracerylaw3.Light -/
def Ok59 (g : Int) (edgesV : List (Int × Int)) (R : Bool → Prop) : Prop :=
  ∀ (h : Heap) (gA : Option Addr) (gL gC : Nat), Hp h [Ck.vw eP gA gL gC edgesV] → CallsH Try.prog 59 #[.agg #[.int .i64 g, .slice gA gL gC]] h fun v h' => ∃ (rV : Bool), Sy h [] h' [] ∧ v = .bool rV ∧ R rV
theorem Ok59.mono {g edgesV} {R R' : Bool → Prop} (H : Ok59 g edgesV R) (kz : ∀ rV, R rV → R' rV) : Ok59 g edgesV R' :=
  fun h gA gL gC hp => (H h gA gL gC hp).mono fun _ _ ⟨rV, P, e, q⟩ => ⟨rV, P, e, kz _ q⟩
def T59 (g : Int) (edgesV : List (Int × Int)) (R : Bool → Prop) : Prop :=
  cnd (decide (((edgesV.length : Nat) : Int) ≤ (300 : Int)))
    (cnd (decide (g ≤ (300 : Int)))
      (R true)
      (Ok43 g edgesV (fun r =>
      R (!r))))
    (R false)
theorem ok59 {g edgesV} {R : Bool → Prop} (T : T59 g edgesV R) : Ok59 g edgesV R := by
  intro h gA gL gC H
  have Y : Sy h [] h _ := Sy.startM H rfl
  obtain rfl := Y.lenV 0 rfl
  apply calls59
  unfold S59
  unfold T59 at T
  intro hv
  have Y : Sy _ _ hv [_, _] := Y.junk _
  clear_value hv
  refine cnd_imp T (fun T => ?_) (fun T => ?_)
  · refine cnd_imp T (fun T => ?_) (fun T => ?_)
    · exact ⟨_, Y.pick [] rfl, rfl, T⟩
    · refine callX_sy (T _ _ _ _ (Y.pick [0] rfl).hp) (fun _ _ ⟨_, p, _⟩ => p.fr) (allc (fun h => by cases h) alln) ?_
      rintro v hv2 ⟨r, PP, rfl, T⟩
      have Y : Sy _ _ hv2 [_, _] := Y.gr PP.fr
      clear PP
      refine ⟨r, rfl, ?_⟩
      exact ⟨_, Y.pick [] rfl, rfl, T⟩
  · exact ⟨_, Y.pick [] rfl, rfl, T⟩
/-- tracery/traceryref6.Depth -/
def S85 (g : Int) (gA : Option Addr) (gL gC : Nat) (s : Int) (h : Heap) (R : Value → Heap → Prop) : Prop :=
  let hv : Heap := h.push (.cells #[.int .i64 g, .slice gA gL gC] 26)
  let hv2 : Heap := hv.push (.cells #[.slice none 0 0, .slice none 0 0, .slice none 0 0, .slice none 0 0] 113)
  let K := fun (p : Nat) (xA : Option Addr) (xL xC : Nat) (xA2 : Option Addr) (xL2 xC2 : Nat) (xA3 : Option Addr) (xL3 xC3 : Nat) (xA4 : Option Addr) (xL4 xC4 : Nat) (hv66 : Heap) =>
    (let hv67 : Heap := hset (hset (hset (hset hv66 p 0 (.slice xA xL xC)) p (0 + 1) (.slice xA2 xL2 xC2)) p ((0 + 1) + 1) (.slice xA3 xL3 xC3)) p (((0 + 1) + 1) + 1) (.slice xA4 xL4 xC4)
    ∃ b o, xA3 = some ⟨b, o, none⟩ ∧ 0 ≤ s ∧ s < (xL3 : Nat) ∧ b ≠ p ∧ b ≠ hv.size ∧ b ≠ h.size ∧ (∃ u, hcell hv67 b (o + (Int.toNat s) * 1) = some u) ∧ hfree hv67 b (o + (Int.toNat s) * 1) = true ∧ let hv68 : Heap := hset hv67 b (o + (Int.toNat s) * 1) (.int .i64 0)
    callX Try.prog 54 #[.agg #[.int .i64 g, .slice gA gL gC]] hv68 [p, hv.size, h.size] fun v36 hv69 =>
    ∃ (rA36 : Option Addr) (rL36 rC36 : Nat), v36 = .slice rA36 rL36 rC36 ∧
    0 ≤ g ∧ g ≤ g ∧ ((8 : Nat) : Int) * g ≤ 281474976710656 ∧ g ≤ 9223372036854775807 ∧ let hv70 : Heap := hv69.push (.cells (madeCells (List.toArray [.int .i64 0]) (Int.toNat g * 1)) 3)
    ∃ Jv : List Value → Heap → Prop, -- block 0 []
    ( ∃ (Iv : List Value → Heap → Prop) (m : List Value → Heap → Nat), Iv [.int .i64 s, .slice xA xL xC, .slice xA2 xL2 xC2, .slice xA3 xL3 xC3, .slice xA4 xL4 xC4] hv70 ∧ -- loop 0: ['v']
     ∀ v37 : Int, ∀ (c0A : Option Addr) (c0L c0C : Nat), ∀ (c1A : Option Addr) (c1L c1C : Nat), ∀ (c2A : Option Addr) (c2L c2C : Nat), ∀ (c3A : Option Addr) (c3L c3C : Nat), ∀ hv71, Iv [.int .i64 v37, .slice c0A c0L c0C, .slice c1A c1L c1C, .slice c2A c2L c2C, .slice c3A c3L c3C] hv71 →
     cnd (decide (v37 ≥ (0 : Int)))
       (∃ Jv2 : List Value → Heap → Prop, -- block 1 ['v']
       ( ∃ b2 o2, (some (⟨hv69.size, 0, none⟩ : Addr)) = some ⟨b2, o2, none⟩ ∧ 0 ≤ v37 ∧ v37 < ((Int.toNat g) : Nat) ∧ ∃ x : Int, hcell hv71 b2 (o2 + (Int.toNat v37) * 1) = some (.int .i64 x) ∧ ∃ b3 o3, rA36 = some ⟨b3, o3, none⟩ ∧ 0 ≤ v37 ∧ v37 < (rL36 : Nat) ∧ ∃ (xA5 : Option Addr) (xL5 xC5 : Nat), hcell hv71 b3 (o3 + (Int.toNat v37) * 1) = some (.slice xA5 xL5 xC5) ∧ cnd (x == ((xL5 : Nat) : Int))
          (∃ b4 o4, c1A = some ⟨b4, o4, none⟩ ∧ 0 ≤ v37 ∧ v37 < (c1L : Nat) ∧ ∃ x2 : Int, hcell hv71 b4 (o4 + (Int.toNat v37) * 1) = some (.int .i64 x2) ∧ cnd (decide (x2 < (0 : Int)))
            (Jv [.slice c0A c0L c0C, .slice c1A c1L c1C, .slice c2A c2L c2C, .slice c3A c3L c3C] hv71)
            (∃ b5 o5, c1A = some ⟨b5, o5, none⟩ ∧ 0 ≤ v37 ∧ v37 < (c1L : Nat) ∧ ∃ x3 : Int, hcell hv71 b5 (o5 + (Int.toNat v37) * 1) = some (.int .i64 x3) ∧ callX Try.prog 88 #[.agg #[.int .i64 g, .slice gA gL gC], .int .i64 x3] hv71 [p, h.size, hv.size] fun v38 hv72 =>
            ∃ r : Int, v38 = .int .i64 r ∧
            Fr [] hv71 hv72 ∧
            Jv2 [.int .i64 r, .slice c0A c0L c0C, .slice c1A c1L c1C, .slice c2A c2L c2C, .slice c3A c3L c3C] hv72))
          (∃ b6 o6, rA36 = some ⟨b6, o6, none⟩ ∧ 0 ≤ v37 ∧ v37 < (rL36 : Nat) ∧ ∃ (xA6 : Option Addr) (xL6 xC6 : Nat), hcell hv71 b6 (o6 + (Int.toNat v37) * 1) = some (.slice xA6 xL6 xC6) ∧ ∃ b7 o7, (some (⟨hv69.size, 0, none⟩ : Addr)) = some ⟨b7, o7, none⟩ ∧ 0 ≤ v37 ∧ v37 < ((Int.toNat g) : Nat) ∧ ∃ x4 : Int, hcell hv71 b7 (o7 + (Int.toNat v37) * 1) = some (.int .i64 x4) ∧ ∃ b8 o8, xA6 = some ⟨b8, o8, none⟩ ∧ 0 ≤ x4 ∧ x4 < (xL6 : Nat) ∧ ∃ x5 : Int, hcell hv71 b8 (o8 + (Int.toNat x4) * 1) = some (.int .i64 x5) ∧ ∃ b9 o9, (some (⟨hv69.size, 0, none⟩ : Addr)) = some ⟨b9, o9, none⟩ ∧ 0 ≤ v37 ∧ v37 < ((Int.toNat g) : Nat) ∧ ∃ x6 : Int, hcell hv71 b9 (o9 + (Int.toNat v37) * 1) = some (.int .i64 x6) ∧ ∃ b10 o10, (some (⟨hv69.size, 0, none⟩ : Addr)) = some ⟨b10, o10, none⟩ ∧ 0 ≤ v37 ∧ v37 < ((Int.toNat g) : Nat) ∧ b10 ≠ p ∧ b10 ≠ h.size ∧ b10 ≠ hv.size ∧ (∃ u, hcell hv71 b10 (o10 + (Int.toNat v37) * 1) = some u) ∧ hfree hv71 b10 (o10 + (Int.toNat v37) * 1) = true ∧ let hv73 : Heap := hset hv71 b10 (o10 + (Int.toNat v37) * 1) (.int .i64 (IntKind.i64.wrap (x6 + (1 : Int))))
          callX Try.prog 55 #[.agg #[.int .i64 g, .slice gA gL gC], .int .i64 x5] hv73 [p, h.size, hv.size] fun v39 hv74 =>
          ∃ r2 : Int, v39 = .int .i64 r2 ∧
          ∃ b11 o11, c2A = some ⟨b11, o11, none⟩ ∧ 0 ≤ r2 ∧ r2 < (c2L : Nat) ∧ ∃ x7 : Int, hcell hv74 b11 (o11 + (Int.toNat r2) * 1) = some (.int .i64 x7) ∧ ∃ Jv3 : List Value → Heap → Prop, -- join 89 ['v']
          ( cnd (decide (x7 < (0 : Int)))
             (∃ b12 o12, c2A = some ⟨b12, o12, none⟩ ∧ 0 ≤ v37 ∧ v37 < (c2L : Nat) ∧ ∃ x8 : Int, hcell hv74 b12 (o12 + (Int.toNat v37) * 1) = some (.int .i64 x8) ∧ ∃ b13 o13, c2A = some ⟨b13, o13, none⟩ ∧ 0 ≤ r2 ∧ r2 < (c2L : Nat) ∧ b13 ≠ p ∧ b13 ≠ h.size ∧ b13 ≠ hv.size ∧ (∃ u, hcell hv74 b13 (o13 + (Int.toNat r2) * 1) = some u) ∧ hfree hv74 b13 (o13 + (Int.toNat r2) * 1) = true ∧ let hv75 : Heap := hset hv74 b13 (o13 + (Int.toNat r2) * 1) (.int .i64 (IntKind.i64.wrap (x8 + (1 : Int))))
             ∃ b14 o14, c1A = some ⟨b14, o14, none⟩ ∧ 0 ≤ r2 ∧ r2 < (c1L : Nat) ∧ b14 ≠ p ∧ b14 ≠ h.size ∧ b14 ≠ hv.size ∧ (∃ u, hcell hv75 b14 (o14 + (Int.toNat r2) * 1) = some u) ∧ hfree hv75 b14 (o14 + (Int.toNat r2) * 1) = true ∧ let hv76 : Heap := hset hv75 b14 (o14 + (Int.toNat r2) * 1) (.int .i64 x5)
             let hv77 : Heap := hv76.push (.cells #[.int .i64 r2] 3)
             ∃ old, Ownd hv77 3 1 c0A c0L c0C old ∧ (∀ b ∈ ([hv76.size, p, h.size, hv.size] : List Nat), b ∉ blkOf c0A) ∧ (c0L + 1) * 8 ≤ 140737488355328 ∧ (c0L + 1) ≤ maxLen ∧
             ∀ sA sC hv78, Ownd hv78 3 1 sA (c0L + 1) sC (old ++ [.int .i64 r2]) → Fr (blkOf c0A) hv77 hv78 → ((sA = c0A ∧ sC = c0C) ∨ ∃ g, sA = some ⟨g, 0, none⟩ ∧ hv77.size ≤ g) → (c0C < (c0L + 1) → Fr [] hv77 hv78) →
             let hv79 : Heap := hset hv78 p 0 (.slice sA (c0L + 1) sC)
             Jv3 [.int .i64 r2, .slice sA (c0L + 1) sC, .slice c1A c1L c1C, .slice c2A c2L c2C, .slice c3A c3L c3C] hv79)
             (Jv3 [.int .i64 v37, .slice c0A c0L c0C, .slice c1A c1L c1C, .slice c2A c2L c2C, .slice c3A c3L c3C] hv74)) ∧
          ∀ v40 : Int, ∀ (c0A2 : Option Addr) (c0L2 c0C2 : Nat), ∀ (c1A2 : Option Addr) (c1L2 c1C2 : Nat), ∀ (c2A2 : Option Addr) (c2L2 c2C2 : Nat), ∀ (c3A2 : Option Addr) (c3L2 c3C2 : Nat), ∀ hv80, Jv3 [.int .i64 v40, .slice c0A2 c0L2 c0C2, .slice c1A2 c1L2 c1C2, .slice c2A2 c2L2 c2C2, .slice c3A2 c3L2 c3C2] hv80 →
          Jv2 [.int .i64 v40, .slice c0A2 c0L2 c0C2, .slice c1A2 c1L2 c1C2, .slice c2A2 c2L2 c2C2, .slice c3A2 c3L2 c3C2] hv80)) ∧
       ∀ v41 : Int, ∀ (c0A3 : Option Addr) (c0L3 c0C3 : Nat), ∀ (c1A3 : Option Addr) (c1L3 c1C3 : Nat), ∀ (c2A3 : Option Addr) (c2L3 c2C3 : Nat), ∀ (c3A3 : Option Addr) (c3L3 c3C3 : Nat), ∀ hv81, Jv2 [.int .i64 v41, .slice c0A3 c0L3 c0C3, .slice c1A3 c1L3 c1C3, .slice c2A3 c2L3 c2C3, .slice c3A3 c3L3 c3C3] hv81 →
       Iv [.int .i64 v41, .slice c0A3 c0L3 c0C3, .slice c1A3 c1L3 c1C3, .slice c2A3 c2L3 c2C3, .slice c3A3 c3L3 c3C3] hv81 ∧ m [.int .i64 v41, .slice c0A3 c0L3 c0C3, .slice c1A3 c1L3 c1C3, .slice c2A3 c2L3 c2C3, .slice c3A3 c3L3 c3C3] hv81 < m [.int .i64 v37, .slice c0A c0L c0C, .slice c1A c1L c1C, .slice c2A c2L c2C, .slice c3A c3L c3C] hv71)
       (Jv [.slice c0A c0L c0C, .slice c1A c1L c1C, .slice c2A c2L c2C, .slice c3A c3L c3C] hv71)) ∧
    ∀ (c0A4 : Option Addr) (c0L4 c0C4 : Nat), ∀ (c1A4 : Option Addr) (c1L4 c1C4 : Nat), ∀ (c2A4 : Option Addr) (c2L4 c2C4 : Nat), ∀ (c3A4 : Option Addr) (c3L4 c3C4 : Nat), ∀ hv82, Jv [.slice c0A4 c0L4 c0C4, .slice c1A4 c1L4 c1C4, .slice c2A4 c2L4 c2C4, .slice c3A4 c3L4 c3C4] hv82 →
    callX Try.prog 127 #[.int .i64 g, .int .i64 (-1)] hv82 [p, h.size, hv.size] fun v42 hv83 =>
    ∃ (rA37 : Option Addr) (rL37 rC37 : Nat), v42 = .slice rA37 rL37 rC37 ∧
    ∃ (Iv2 : List Value → Heap → Prop) (m2 : List Value → Heap → Nat), Iv2 [.int .i64 0] hv83 ∧ -- loop 2: ['i']
    ∀ i : Int, ∀ hv84, Iv2 [.int .i64 i] hv84 →
    cnd (decide (i < ((c0L4 : Nat) : Int)))
      (∃ b15 o15, c0A4 = some ⟨b15, o15, none⟩ ∧ 0 ≤ i ∧ i < (c0L4 : Nat) ∧ ∃ x9 : Int, hcell hv84 b15 (o15 + (Int.toNat i) * 1) = some (.int .i64 x9) ∧ ∃ b16 o16, rA37 = some ⟨b16, o16, none⟩ ∧ 0 ≤ x9 ∧ x9 < (rL37 : Nat) ∧ b16 ≠ h.size ∧ b16 ≠ hv.size ∧ b16 ≠ p ∧ (∃ u, hcell hv84 b16 (o16 + (Int.toNat x9) * 1) = some u) ∧ hfree hv84 b16 (o16 + (Int.toNat x9) * 1) = true ∧ let hv85 : Heap := hset hv84 b16 (o16 + (Int.toNat x9) * 1) (.int .i64 i)
      ∃ b17 o17, c0A4 = some ⟨b17, o17, none⟩ ∧ 0 ≤ i ∧ i < (c0L4 : Nat) ∧ ∃ x10 : Int, hcell hv85 b17 (o17 + (Int.toNat i) * 1) = some (.int .i64 x10) ∧ ∃ b18 o18, c3A4 = some ⟨b18, o18, none⟩ ∧ 0 ≤ x10 ∧ x10 < (c3L4 : Nat) ∧ b18 ≠ h.size ∧ b18 ≠ hv.size ∧ b18 ≠ p ∧ (∃ u, hcell hv85 b18 (o18 + (Int.toNat x10) * 1) = some u) ∧ hfree hv85 b18 (o18 + (Int.toNat x10) * 1) = true ∧ let hv86 : Heap := hset hv85 b18 (o18 + (Int.toNat x10) * 1) (.int .i64 i)
      Iv2 [.int .i64 (IntKind.i64.wrap (i + (1 : Int)))] hv86 ∧ m2 [.int .i64 (IntKind.i64.wrap (i + (1 : Int)))] hv86 < m2 [.int .i64 i] hv84)
      (∃ (Iv3 : List Value → Heap → Prop) (m3 : List Value → Heap → Nat), Iv3 [.int .i64 (IntKind.i64.wrap (((c0L4 : Nat) : Int) - (1 : Int)))] hv84 ∧ -- loop 4: ['i']
      ∀ i2 : Int, ∀ hv87, Iv3 [.int .i64 i2] hv87 →
      cnd (decide (i2 ≥ (0 : Int)))
        (∃ b19 o19, c0A4 = some ⟨b19, o19, none⟩ ∧ 0 ≤ i2 ∧ i2 < (c0L4 : Nat) ∧ ∃ x11 : Int, hcell hv87 b19 (o19 + (Int.toNat i2) * 1) = some (.int .i64 x11) ∧ ∃ (Iv4 : List Value → Heap → Prop) (m4 : List Value → Heap → Nat), Iv4 [.int .i64 0] hv87 ∧ -- loop 6: ['k']
        ∀ k : Int, ∀ hv88, Iv4 [.int .i64 k] hv88 →
        ∃ b20 o20, rA36 = some ⟨b20, o20, none⟩ ∧ 0 ≤ x11 ∧ x11 < (rL36 : Nat) ∧ ∃ (xA7 : Option Addr) (xL7 xC7 : Nat), hcell hv88 b20 (o20 + (Int.toNat x11) * 1) = some (.slice xA7 xL7 xC7) ∧ cnd (decide (k < ((xL7 : Nat) : Int)))
          (let K2 := fun (hv97 : Heap) =>
            (Iv4 [.int .i64 (IntKind.i64.wrap (k + (1 : Int)))] hv97 ∧ m4 [.int .i64 (IntKind.i64.wrap (k + (1 : Int)))] hv97 < m4 [.int .i64 k] hv88)
          ∃ b21 o21, rA36 = some ⟨b21, o21, none⟩ ∧ 0 ≤ x11 ∧ x11 < (rL36 : Nat) ∧ ∃ (xA8 : Option Addr) (xL8 xC8 : Nat), hcell hv88 b21 (o21 + (Int.toNat x11) * 1) = some (.slice xA8 xL8 xC8) ∧ ∃ b22 o22, xA8 = some ⟨b22, o22, none⟩ ∧ 0 ≤ k ∧ k < (xL8 : Nat) ∧ ∃ x12 : Int, hcell hv88 b22 (o22 + (Int.toNat k) * 1) = some (.int .i64 x12) ∧ callX Try.prog 55 #[.agg #[.int .i64 g, .slice gA gL gC], .int .i64 x12] hv88 [h.size, hv.size, p] fun v43 hv89 =>
          ∃ r3 : Int, v43 = .int .i64 r3 ∧
          ∃ b23 o23, c1A4 = some ⟨b23, o23, none⟩ ∧ 0 ≤ x11 ∧ x11 < (c1L4 : Nat) ∧ ∃ x13 : Int, hcell hv89 b23 (o23 + (Int.toNat x11) * 1) = some (.int .i64 x13) ∧ cnd (decide (x13 ≥ (0 : Int)))
            ((2 : Int) ≠ 0 ∧ ∃ b24 o24, c1A4 = some ⟨b24, o24, none⟩ ∧ 0 ≤ x11 ∧ x11 < (c1L4 : Nat) ∧ ∃ x14 : Int, hcell hv89 b24 (o24 + (Int.toNat x11) * 1) = some (.int .i64 x14) ∧ (2 : Int) ≠ 0 ∧ ∃ Jv4 : List Value → Heap → Prop, -- join 185 []
            ( cnd ((IntKind.i64.wrap (Int.tdiv x12 (2 : Int))) == (IntKind.i64.wrap (Int.tdiv x14 (2 : Int))))
               (Jv4 [] hv89)
               (∃ b25 o25, c1A4 = some ⟨b25, o25, none⟩ ∧ 0 ≤ r3 ∧ r3 < (c1L4 : Nat) ∧ ∃ x15 : Int, hcell hv89 b25 (o25 + (Int.toNat r3) * 1) = some (.int .i64 x15) ∧ ∃ Jv5 : List Value → Heap → Prop, -- join 203 []
               ( cnd (x15 == x12)
                  (∃ b26 o26, c3A4 = some ⟨b26, o26, none⟩ ∧ 0 ≤ x11 ∧ x11 < (c3L4 : Nat) ∧ ∃ x16 : Int, hcell hv89 b26 (o26 + (Int.toNat x11) * 1) = some (.int .i64 x16) ∧ ∃ b27 o27, c3A4 = some ⟨b27, o27, none⟩ ∧ 0 ≤ r3 ∧ r3 < (c3L4 : Nat) ∧ ∃ x17 : Int, hcell hv89 b27 (o27 + (Int.toNat r3) * 1) = some (.int .i64 x17) ∧ ∃ b28 o28, c3A4 = some ⟨b28, o28, none⟩ ∧ 0 ≤ x11 ∧ x11 < (c3L4 : Nat) ∧ b28 ≠ h.size ∧ b28 ≠ hv.size ∧ b28 ≠ p ∧ (∃ u, hcell hv89 b28 (o28 + (Int.toNat x11) * 1) = some u) ∧ hfree hv89 b28 (o28 + (Int.toNat x11) * 1) = true ∧ let hv90 : Heap := hset hv89 b28 (o28 + (Int.toNat x11) * 1) (.int .i64 (if x17 < x16 then x17 else x16))
                  Jv5 [] hv90)
                  (∃ b29 o29, c3A4 = some ⟨b29, o29, none⟩ ∧ 0 ≤ x11 ∧ x11 < (c3L4 : Nat) ∧ ∃ x18 : Int, hcell hv89 b29 (o29 + (Int.toNat x11) * 1) = some (.int .i64 x18) ∧ ∃ b30 o30, rA37 = some ⟨b30, o30, none⟩ ∧ 0 ≤ r3 ∧ r3 < (rL37 : Nat) ∧ ∃ x19 : Int, hcell hv89 b30 (o30 + (Int.toNat r3) * 1) = some (.int .i64 x19) ∧ ∃ b31 o31, c3A4 = some ⟨b31, o31, none⟩ ∧ 0 ≤ x11 ∧ x11 < (c3L4 : Nat) ∧ b31 ≠ h.size ∧ b31 ≠ hv.size ∧ b31 ≠ p ∧ (∃ u, hcell hv89 b31 (o31 + (Int.toNat x11) * 1) = some u) ∧ hfree hv89 b31 (o31 + (Int.toNat x11) * 1) = true ∧ let hv91 : Heap := hset hv89 b31 (o31 + (Int.toNat x11) * 1) (.int .i64 (if x19 < x18 then x19 else x18))
                  Jv5 [] hv91)) ∧
               ∀ hv92, Jv5 [] hv92 →
               Jv4 [] hv92)) ∧
            ∀ hv93, Jv4 [] hv93 →
            K2 hv93)
            (∃ b32 o32, c1A4 = some ⟨b32, o32, none⟩ ∧ 0 ≤ r3 ∧ r3 < (c1L4 : Nat) ∧ ∃ x20 : Int, hcell hv89 b32 (o32 + (Int.toNat r3) * 1) = some (.int .i64 x20) ∧ ∃ Jv6 : List Value → Heap → Prop, -- join 203 []
            ( cnd (x20 == x12)
               (∃ b33 o33, c3A4 = some ⟨b33, o33, none⟩ ∧ 0 ≤ x11 ∧ x11 < (c3L4 : Nat) ∧ ∃ x21 : Int, hcell hv89 b33 (o33 + (Int.toNat x11) * 1) = some (.int .i64 x21) ∧ ∃ b34 o34, c3A4 = some ⟨b34, o34, none⟩ ∧ 0 ≤ r3 ∧ r3 < (c3L4 : Nat) ∧ ∃ x22 : Int, hcell hv89 b34 (o34 + (Int.toNat r3) * 1) = some (.int .i64 x22) ∧ ∃ b35 o35, c3A4 = some ⟨b35, o35, none⟩ ∧ 0 ≤ x11 ∧ x11 < (c3L4 : Nat) ∧ b35 ≠ h.size ∧ b35 ≠ hv.size ∧ b35 ≠ p ∧ (∃ u, hcell hv89 b35 (o35 + (Int.toNat x11) * 1) = some u) ∧ hfree hv89 b35 (o35 + (Int.toNat x11) * 1) = true ∧ let hv94 : Heap := hset hv89 b35 (o35 + (Int.toNat x11) * 1) (.int .i64 (if x22 < x21 then x22 else x21))
               Jv6 [] hv94)
               (∃ b36 o36, c3A4 = some ⟨b36, o36, none⟩ ∧ 0 ≤ x11 ∧ x11 < (c3L4 : Nat) ∧ ∃ x23 : Int, hcell hv89 b36 (o36 + (Int.toNat x11) * 1) = some (.int .i64 x23) ∧ ∃ b37 o37, rA37 = some ⟨b37, o37, none⟩ ∧ 0 ≤ r3 ∧ r3 < (rL37 : Nat) ∧ ∃ x24 : Int, hcell hv89 b37 (o37 + (Int.toNat r3) * 1) = some (.int .i64 x24) ∧ ∃ b38 o38, c3A4 = some ⟨b38, o38, none⟩ ∧ 0 ≤ x11 ∧ x11 < (c3L4 : Nat) ∧ b38 ≠ h.size ∧ b38 ≠ hv.size ∧ b38 ≠ p ∧ (∃ u, hcell hv89 b38 (o38 + (Int.toNat x11) * 1) = some u) ∧ hfree hv89 b38 (o38 + (Int.toNat x11) * 1) = true ∧ let hv95 : Heap := hset hv89 b38 (o38 + (Int.toNat x11) * 1) (.int .i64 (if x24 < x23 then x24 else x23))
               Jv6 [] hv95)) ∧
            ∀ hv96, Jv6 [] hv96 →
            K2 hv96))
          (Iv3 [.int .i64 (IntKind.i64.wrap (i2 - (1 : Int)))] hv88 ∧ m3 [.int .i64 (IntKind.i64.wrap (i2 - (1 : Int)))] hv88 < m3 [.int .i64 i2] hv87))
        (let hv98 : Heap := hset (hset (hset (hset hv87 hv.size 0 (.slice c0A4 c0L4 c0C4)) hv.size (0 + 1) (.slice c1A4 c1L4 c1C4)) hv.size ((0 + 1) + 1) (.slice c2A4 c2L4 c2C4)) hv.size (((0 + 1) + 1) + 1) (.slice c3A4 c3L4 c3C4)
        R (.agg #[.slice c0A4 c0L4 c0C4, .slice c1A4 c1L4 c1C4, .slice c2A4 c2L4 c2C4, .slice c3A4 c3L4 c3C4]) hv98)))
  (let hv3 : Heap := hv2.push (.cells #[.int .i64 s] 3)
  Fr [] hv2 hv3 ∧
  (callX Try.prog 127 #[.int .i64 g, .int .i64 (-1)] hv3 [hv.size, h.size] fun v hv4 =>
  ∃ (rA : Option Addr) (rL rC : Nat), v = .slice rA rL rC ∧
  Fr [] hv2 hv4 ∧
  (callX Try.prog 127 #[.int .i64 g, .int .i64 (-1)] hv4 [hv.size, h.size] fun v2 hv5 =>
  ∃ (rA2 : Option Addr) (rL2 rC2 : Nat), v2 = .slice rA2 rL2 rC2 ∧
  Fr [] hv2 hv5 ∧
  (callX Try.prog 127 #[.int .i64 g, .int .i64 (-1)] hv5 [hv.size, h.size] fun v3 hv6 =>
  ∃ (rA3 : Option Addr) (rL3 rC3 : Nat), v3 = .slice rA3 rL3 rC3 ∧
  Fr [] hv2 hv6 ∧
  let hv7 : Heap := hv6.push (.cells #[.slice none 0 0, .slice none 0 0, .slice none 0 0, .slice none 0 0] 113)
  Fr [] hv2 hv7 ∧
  K hv6.size (some (⟨hv2.size, 0, none⟩ : Addr)) 1 1 rA rL rC rA2 rL2 rC2 rA3 rL3 rC3 hv7)
  ∧ ( let hv8 : Heap := hv5.push (.cells #[.slice none 0 0, .slice none 0 0, .slice none 0 0, .slice none 0 0] 113)
   Fr [] hv2 hv8 ∧
   callX Try.prog 127 #[.int .i64 g, .int .i64 (-1)] hv8 [hv5.size, hv.size, h.size] fun v4 hv9 =>
   ∃ (rA4 : Option Addr) (rL4 rC4 : Nat), v4 = .slice rA4 rL4 rC4 ∧
   Fr [] hv2 hv9 ∧
   K hv5.size (some (⟨hv2.size, 0, none⟩ : Addr)) 1 1 rA rL rC rA2 rL2 rC2 rA4 rL4 rC4 hv9))
  ∧ ( let hv10 : Heap := hv4.push (.cells #[.slice none 0 0, .slice none 0 0, .slice none 0 0, .slice none 0 0] 113)
   Fr [] hv2 hv10 ∧
   callX Try.prog 127 #[.int .i64 g, .int .i64 (-1)] hv10 [hv4.size, hv.size, h.size] fun v5 hv11 =>
   ∃ (rA5 : Option Addr) (rL5 rC5 : Nat), v5 = .slice rA5 rL5 rC5 ∧
   Fr [] hv2 hv11 ∧
   callX Try.prog 127 #[.int .i64 g, .int .i64 (-1)] hv11 [hv4.size, hv.size, h.size] fun v6 hv12 =>
   ∃ (rA6 : Option Addr) (rL6 rC6 : Nat), v6 = .slice rA6 rL6 rC6 ∧
   Fr [] hv2 hv12 ∧
   K hv4.size (some (⟨hv2.size, 0, none⟩ : Addr)) 1 1 rA rL rC rA5 rL5 rC5 rA6 rL6 rC6 hv12))
  ∧ ( let hv13 : Heap := hv3.push (.cells #[.slice none 0 0, .slice none 0 0, .slice none 0 0, .slice none 0 0] 113)
   Fr [] hv2 hv13 ∧
   callX Try.prog 127 #[.int .i64 g, .int .i64 (-1)] hv13 [hv3.size, hv.size, h.size] fun v7 hv14 =>
   ∃ (rA7 : Option Addr) (rL7 rC7 : Nat), v7 = .slice rA7 rL7 rC7 ∧
   Fr [] hv2 hv14 ∧
   callX Try.prog 127 #[.int .i64 g, .int .i64 (-1)] hv14 [hv3.size, hv.size, h.size] fun v8 hv15 =>
   ∃ (rA8 : Option Addr) (rL8 rC8 : Nat), v8 = .slice rA8 rL8 rC8 ∧
   Fr [] hv2 hv15 ∧
   callX Try.prog 127 #[.int .i64 g, .int .i64 (-1)] hv15 [hv3.size, hv.size, h.size] fun v9 hv16 =>
   ∃ (rA9 : Option Addr) (rL9 rC9 : Nat), v9 = .slice rA9 rL9 rC9 ∧
   Fr [] hv2 hv16 ∧
   K hv3.size (some (⟨hv2.size, 0, none⟩ : Addr)) 1 1 rA7 rL7 rC7 rA8 rL8 rC8 rA9 rL9 rC9 hv16))
  ∧ (callX Try.prog 127 #[.int .i64 g, .int .i64 (-1)] hv2 [hv.size, h.size] fun v10 hv17 =>
  ∃ (rA10 : Option Addr) (rL10 rC10 : Nat), v10 = .slice rA10 rL10 rC10 ∧
  Fr [] hv2 hv17 ∧
  (let hv18 : Heap := hv17.push (.cells #[.int .i64 s] 3)
  Fr [] hv2 hv18 ∧
  (callX Try.prog 127 #[.int .i64 g, .int .i64 (-1)] hv18 [hv.size, h.size] fun v11 hv19 =>
  ∃ (rA11 : Option Addr) (rL11 rC11 : Nat), v11 = .slice rA11 rL11 rC11 ∧
  Fr [] hv2 hv19 ∧
  (callX Try.prog 127 #[.int .i64 g, .int .i64 (-1)] hv19 [hv.size, h.size] fun v12 hv20 =>
  ∃ (rA12 : Option Addr) (rL12 rC12 : Nat), v12 = .slice rA12 rL12 rC12 ∧
  Fr [] hv2 hv20 ∧
  let hv21 : Heap := hv20.push (.cells #[.slice none 0 0, .slice none 0 0, .slice none 0 0, .slice none 0 0] 113)
  Fr [] hv2 hv21 ∧
  K hv20.size (some (⟨hv17.size, 0, none⟩ : Addr)) 1 1 rA10 rL10 rC10 rA11 rL11 rC11 rA12 rL12 rC12 hv21)
  ∧ ( let hv22 : Heap := hv19.push (.cells #[.slice none 0 0, .slice none 0 0, .slice none 0 0, .slice none 0 0] 113)
   Fr [] hv2 hv22 ∧
   callX Try.prog 127 #[.int .i64 g, .int .i64 (-1)] hv22 [hv19.size, hv.size, h.size] fun v13 hv23 =>
   ∃ (rA13 : Option Addr) (rL13 rC13 : Nat), v13 = .slice rA13 rL13 rC13 ∧
   Fr [] hv2 hv23 ∧
   K hv19.size (some (⟨hv17.size, 0, none⟩ : Addr)) 1 1 rA10 rL10 rC10 rA11 rL11 rC11 rA13 rL13 rC13 hv23))
  ∧ ( let hv24 : Heap := hv18.push (.cells #[.slice none 0 0, .slice none 0 0, .slice none 0 0, .slice none 0 0] 113)
   Fr [] hv2 hv24 ∧
   callX Try.prog 127 #[.int .i64 g, .int .i64 (-1)] hv24 [hv18.size, hv.size, h.size] fun v14 hv25 =>
   ∃ (rA14 : Option Addr) (rL14 rC14 : Nat), v14 = .slice rA14 rL14 rC14 ∧
   Fr [] hv2 hv25 ∧
   callX Try.prog 127 #[.int .i64 g, .int .i64 (-1)] hv25 [hv18.size, hv.size, h.size] fun v15 hv26 =>
   ∃ (rA15 : Option Addr) (rL15 rC15 : Nat), v15 = .slice rA15 rL15 rC15 ∧
   Fr [] hv2 hv26 ∧
   K hv18.size (some (⟨hv17.size, 0, none⟩ : Addr)) 1 1 rA10 rL10 rC10 rA14 rL14 rC14 rA15 rL15 rC15 hv26))
  ∧ (callX Try.prog 127 #[.int .i64 g, .int .i64 (-1)] hv17 [hv.size, h.size] fun v16 hv27 =>
  ∃ (rA16 : Option Addr) (rL16 rC16 : Nat), v16 = .slice rA16 rL16 rC16 ∧
  Fr [] hv2 hv27 ∧
  (let hv28 : Heap := hv27.push (.cells #[.int .i64 s] 3)
  Fr [] hv2 hv28 ∧
  (callX Try.prog 127 #[.int .i64 g, .int .i64 (-1)] hv28 [hv.size, h.size] fun v17 hv29 =>
  ∃ (rA17 : Option Addr) (rL17 rC17 : Nat), v17 = .slice rA17 rL17 rC17 ∧
  Fr [] hv2 hv29 ∧
  let hv30 : Heap := hv29.push (.cells #[.slice none 0 0, .slice none 0 0, .slice none 0 0, .slice none 0 0] 113)
  Fr [] hv2 hv30 ∧
  K hv29.size (some (⟨hv27.size, 0, none⟩ : Addr)) 1 1 rA10 rL10 rC10 rA16 rL16 rC16 rA17 rL17 rC17 hv30)
  ∧ ( let hv31 : Heap := hv28.push (.cells #[.slice none 0 0, .slice none 0 0, .slice none 0 0, .slice none 0 0] 113)
   Fr [] hv2 hv31 ∧
   callX Try.prog 127 #[.int .i64 g, .int .i64 (-1)] hv31 [hv28.size, hv.size, h.size] fun v18 hv32 =>
   ∃ (rA18 : Option Addr) (rL18 rC18 : Nat), v18 = .slice rA18 rL18 rC18 ∧
   Fr [] hv2 hv32 ∧
   K hv28.size (some (⟨hv27.size, 0, none⟩ : Addr)) 1 1 rA10 rL10 rC10 rA16 rL16 rC16 rA18 rL18 rC18 hv32))
  ∧ (callX Try.prog 127 #[.int .i64 g, .int .i64 (-1)] hv27 [hv.size, h.size] fun v19 hv33 =>
  ∃ (rA19 : Option Addr) (rL19 rC19 : Nat), v19 = .slice rA19 rL19 rC19 ∧
  Fr [] hv2 hv33 ∧
  (let hv34 : Heap := hv33.push (.cells #[.int .i64 s] 3)
  Fr [] hv2 hv34 ∧
  let hv35 : Heap := hv34.push (.cells #[.slice none 0 0, .slice none 0 0, .slice none 0 0, .slice none 0 0] 113)
  Fr [] hv2 hv35 ∧
  K hv34.size (some (⟨hv33.size, 0, none⟩ : Addr)) 1 1 rA10 rL10 rC10 rA16 rL16 rC16 rA19 rL19 rC19 hv35)
  ∧ ( let hv36 : Heap := hv33.push (.cells #[.slice none 0 0, .slice none 0 0, .slice none 0 0, .slice none 0 0] 113)
   Fr [] hv2 hv36 ∧
   let hv37 : Heap := hv36.push (.cells #[.int .i64 s] 3)
   Fr [] hv2 hv37 ∧
   K hv33.size (some (⟨hv36.size, 0, none⟩ : Addr)) 1 1 rA10 rL10 rC10 rA16 rL16 rC16 rA19 rL19 rC19 hv37))
  ∧ ( let hv38 : Heap := hv27.push (.cells #[.slice none 0 0, .slice none 0 0, .slice none 0 0, .slice none 0 0] 113)
   Fr [] hv2 hv38 ∧
   (let hv39 : Heap := hv38.push (.cells #[.int .i64 s] 3)
   Fr [] hv2 hv39 ∧
   callX Try.prog 127 #[.int .i64 g, .int .i64 (-1)] hv39 [hv27.size, hv.size, h.size] fun v20 hv40 =>
   ∃ (rA20 : Option Addr) (rL20 rC20 : Nat), v20 = .slice rA20 rL20 rC20 ∧
   Fr [] hv2 hv40 ∧
   K hv27.size (some (⟨hv38.size, 0, none⟩ : Addr)) 1 1 rA10 rL10 rC10 rA16 rL16 rC16 rA20 rL20 rC20 hv40)
   ∧ ( callX Try.prog 127 #[.int .i64 g, .int .i64 (-1)] hv38 [hv27.size, hv.size, h.size] fun v21 hv41 =>
    ∃ (rA21 : Option Addr) (rL21 rC21 : Nat), v21 = .slice rA21 rL21 rC21 ∧
    Fr [] hv2 hv41 ∧
    let hv42 : Heap := hv41.push (.cells #[.int .i64 s] 3)
    Fr [] hv2 hv42 ∧
    K hv27.size (some (⟨hv41.size, 0, none⟩ : Addr)) 1 1 rA10 rL10 rC10 rA16 rL16 rC16 rA21 rL21 rC21 hv42)))
  ∧ ( let hv43 : Heap := hv17.push (.cells #[.slice none 0 0, .slice none 0 0, .slice none 0 0, .slice none 0 0] 113)
   Fr [] hv2 hv43 ∧
   (let hv44 : Heap := hv43.push (.cells #[.int .i64 s] 3)
   Fr [] hv2 hv44 ∧
   callX Try.prog 127 #[.int .i64 g, .int .i64 (-1)] hv44 [hv17.size, hv.size, h.size] fun v22 hv45 =>
   ∃ (rA22 : Option Addr) (rL22 rC22 : Nat), v22 = .slice rA22 rL22 rC22 ∧
   Fr [] hv2 hv45 ∧
   callX Try.prog 127 #[.int .i64 g, .int .i64 (-1)] hv45 [hv17.size, hv.size, h.size] fun v23 hv46 =>
   ∃ (rA23 : Option Addr) (rL23 rC23 : Nat), v23 = .slice rA23 rL23 rC23 ∧
   Fr [] hv2 hv46 ∧
   K hv17.size (some (⟨hv43.size, 0, none⟩ : Addr)) 1 1 rA10 rL10 rC10 rA22 rL22 rC22 rA23 rL23 rC23 hv46)
   ∧ ( callX Try.prog 127 #[.int .i64 g, .int .i64 (-1)] hv43 [hv17.size, hv.size, h.size] fun v24 hv47 =>
    ∃ (rA24 : Option Addr) (rL24 rC24 : Nat), v24 = .slice rA24 rL24 rC24 ∧
    Fr [] hv2 hv47 ∧
    (let hv48 : Heap := hv47.push (.cells #[.int .i64 s] 3)
    Fr [] hv2 hv48 ∧
    callX Try.prog 127 #[.int .i64 g, .int .i64 (-1)] hv48 [hv17.size, hv.size, h.size] fun v25 hv49 =>
    ∃ (rA25 : Option Addr) (rL25 rC25 : Nat), v25 = .slice rA25 rL25 rC25 ∧
    Fr [] hv2 hv49 ∧
    K hv17.size (some (⟨hv47.size, 0, none⟩ : Addr)) 1 1 rA10 rL10 rC10 rA24 rL24 rC24 rA25 rL25 rC25 hv49)
    ∧ ( callX Try.prog 127 #[.int .i64 g, .int .i64 (-1)] hv47 [hv17.size, hv.size, h.size] fun v26 hv50 =>
     ∃ (rA26 : Option Addr) (rL26 rC26 : Nat), v26 = .slice rA26 rL26 rC26 ∧
     Fr [] hv2 hv50 ∧
     let hv51 : Heap := hv50.push (.cells #[.int .i64 s] 3)
     Fr [] hv2 hv51 ∧
     K hv17.size (some (⟨hv50.size, 0, none⟩ : Addr)) 1 1 rA10 rL10 rC10 rA24 rL24 rC24 rA26 rL26 rC26 hv51))))
  ∧ ( let hv52 : Heap := hv2.push (.cells #[.slice none 0 0, .slice none 0 0, .slice none 0 0, .slice none 0 0] 113)
   Fr [] hv2 hv52 ∧
   (let hv53 : Heap := hv52.push (.cells #[.int .i64 s] 3)
   Fr [] hv2 hv53 ∧
   callX Try.prog 127 #[.int .i64 g, .int .i64 (-1)] hv53 [hv2.size, hv.size, h.size] fun v27 hv54 =>
   ∃ (rA27 : Option Addr) (rL27 rC27 : Nat), v27 = .slice rA27 rL27 rC27 ∧
   Fr [] hv2 hv54 ∧
   callX Try.prog 127 #[.int .i64 g, .int .i64 (-1)] hv54 [hv2.size, hv.size, h.size] fun v28 hv55 =>
   ∃ (rA28 : Option Addr) (rL28 rC28 : Nat), v28 = .slice rA28 rL28 rC28 ∧
   Fr [] hv2 hv55 ∧
   callX Try.prog 127 #[.int .i64 g, .int .i64 (-1)] hv55 [hv2.size, hv.size, h.size] fun v29 hv56 =>
   ∃ (rA29 : Option Addr) (rL29 rC29 : Nat), v29 = .slice rA29 rL29 rC29 ∧
   Fr [] hv2 hv56 ∧
   K hv2.size (some (⟨hv52.size, 0, none⟩ : Addr)) 1 1 rA27 rL27 rC27 rA28 rL28 rC28 rA29 rL29 rC29 hv56)
   ∧ ( callX Try.prog 127 #[.int .i64 g, .int .i64 (-1)] hv52 [hv2.size, hv.size, h.size] fun v30 hv57 =>
    ∃ (rA30 : Option Addr) (rL30 rC30 : Nat), v30 = .slice rA30 rL30 rC30 ∧
    Fr [] hv2 hv57 ∧
    (let hv58 : Heap := hv57.push (.cells #[.int .i64 s] 3)
    Fr [] hv2 hv58 ∧
    callX Try.prog 127 #[.int .i64 g, .int .i64 (-1)] hv58 [hv2.size, hv.size, h.size] fun v31 hv59 =>
    ∃ (rA31 : Option Addr) (rL31 rC31 : Nat), v31 = .slice rA31 rL31 rC31 ∧
    Fr [] hv2 hv59 ∧
    callX Try.prog 127 #[.int .i64 g, .int .i64 (-1)] hv59 [hv2.size, hv.size, h.size] fun v32 hv60 =>
    ∃ (rA32 : Option Addr) (rL32 rC32 : Nat), v32 = .slice rA32 rL32 rC32 ∧
    Fr [] hv2 hv60 ∧
    K hv2.size (some (⟨hv57.size, 0, none⟩ : Addr)) 1 1 rA30 rL30 rC30 rA31 rL31 rC31 rA32 rL32 rC32 hv60)
    ∧ ( callX Try.prog 127 #[.int .i64 g, .int .i64 (-1)] hv57 [hv2.size, hv.size, h.size] fun v33 hv61 =>
     ∃ (rA33 : Option Addr) (rL33 rC33 : Nat), v33 = .slice rA33 rL33 rC33 ∧
     Fr [] hv2 hv61 ∧
     (let hv62 : Heap := hv61.push (.cells #[.int .i64 s] 3)
     Fr [] hv2 hv62 ∧
     callX Try.prog 127 #[.int .i64 g, .int .i64 (-1)] hv62 [hv2.size, hv.size, h.size] fun v34 hv63 =>
     ∃ (rA34 : Option Addr) (rL34 rC34 : Nat), v34 = .slice rA34 rL34 rC34 ∧
     Fr [] hv2 hv63 ∧
     K hv2.size (some (⟨hv61.size, 0, none⟩ : Addr)) 1 1 rA30 rL30 rC30 rA33 rL33 rC33 rA34 rL34 rC34 hv63)
     ∧ ( callX Try.prog 127 #[.int .i64 g, .int .i64 (-1)] hv61 [hv2.size, hv.size, h.size] fun v35 hv64 =>
      ∃ (rA35 : Option Addr) (rL35 rC35 : Nat), v35 = .slice rA35 rL35 rC35 ∧
      Fr [] hv2 hv64 ∧
      let hv65 : Heap := hv64.push (.cells #[.int .i64 s] 3)
      Fr [] hv2 hv65 ∧
      K hv2.size (some (⟨hv64.size, 0, none⟩ : Addr)) 1 1 rA30 rL30 rC30 rA33 rL33 rC33 rA35 rL35 rC35 hv65))))
theorem calls85 {h : Heap} {R : Value → Heap → Prop} (g : Int) (gA : Option Addr) (gL gC : Nat) (s : Int) (H : S85 g gA gL gC s h R) : CallsH Try.prog 85 #[.agg #[.int .i64 g, .slice gA gL gC], .int .i64 s] h R := by
  have e : S85 g gA gL gC s h R = FX (envX [2, 4, 5, 108] 227) { loops := [(0, ⟨[2, 4, 5, 6, 7], [8], [2, 4], [5]⟩), (2, ⟨[2, 4, 5, 6, 11], [12], [2, 4, 5], []⟩), (4, ⟨[2, 4, 5, 6, 11], [13], [2, 4, 5], []⟩), (6, ⟨[2, 4, 5, 6, 11, 13, 14], [15], [2, 4, 5], []⟩)], joins := [(89, ⟨[2, 4, 5, 6, 7], [8], [2, 4], [5]⟩), (185, ⟨[2, 4, 5, 6, 11, 13, 14, 15], [], [2, 4, 5], []⟩), (203, ⟨[2, 4, 5, 6, 11, 13, 14, 15], [], [2, 4, 5], []⟩)], blocks := [(0, ⟨[2, 4, 5, 6], [], [2, 4], [5]⟩), (1, ⟨[2, 4, 5, 6, 7], [8], [2, 4], [5]⟩)], draws := [(1, ⟨13, false⟩), (7, ⟨10, false⟩), (9, ⟨8, false⟩), (10, ⟨11, false⟩), (14, ⟨10, false⟩), (23, ⟨9, false⟩), (36, ⟨15, false⟩), (33, ⟨14, false⟩)] } Try.f85 (Try.f85.body.getD .skip) [.agg #[.int .i64 g, .slice gA gL gC], .int .i64 s] h R := by kernel_rfl
  exact calls_of_FX (envX_ok _ _) Try.func85 (by kernel_rfl) (by kernel_rfl) (by kernel_rfl) (e ▸ H)
/-- tracery/traceryref6.Depth -/
def Ok85 (g : Int) (edgesV : List (Int × Int)) (s : Int) (R : List Int → List Int → List Int → List Int → Prop) : Prop :=
  ∀ (h : Heap) (gA : Option Addr) (gL gC : Nat), Hp h [Ck.vw eP gA gL gC edgesV] → CallsH Try.prog 85 #[.agg #[.int .i64 g, .slice gA gL gC], .int .i64 s] h fun v h' => ∃ (orderVA : Option Addr) (orderVL orderVC : Nat) (orderV : List Int) (byVA : Option Addr) (byVL byVC : Nat) (byV : List Int) (farVA : Option Addr) (farVL farVC : Nat) (farV : List Int) (lowVA : Option Addr) (lowVL lowVC : Nat) (lowV : List Int), Sy h [] h' [Ck.sl eI 3 orderVA orderVL orderVC orderV, Ck.sl eI 3 byVA byVL byVC byV, Ck.sl eI 3 farVA farVL farVC farV, Ck.sl eI 3 lowVA lowVL lowVC lowV] ∧ v = .agg #[.slice orderVA orderVL orderVC, .slice byVA byVL byVC, .slice farVA farVL farVC, .slice lowVA lowVL lowVC] ∧ R orderV byV farV lowV
theorem Ok85.mono {g edgesV s} {R R' : List Int → List Int → List Int → List Int → Prop} (H : Ok85 g edgesV s R) (kz : ∀ orderV byV farV lowV, R orderV byV farV lowV → R' orderV byV farV lowV) : Ok85 g edgesV s R' :=
  fun h gA gL gC hp => (H h gA gL gC hp).mono fun _ _ ⟨orderVA, orderVL, orderVC, orderV, byVA, byVL, byVC, byV, farVA, farVL, farVC, farV, lowVA, lowVL, lowVC, lowV, P, e, q⟩ => ⟨orderVA, orderVL, orderVC, orderV, byVA, byVL, byVC, byV, farVA, farVL, farVC, farV, lowVA, lowVL, lowVC, lowV, P, e, kz _ _ _ _ q⟩
def T85 (g : Int) (edgesV : List (Int × Int)) (s : Int) (R : List Int → List Int → List Int → List Int → Prop) : Prop :=
  ∃ Jv_2 : List Int → List Int → List Int → List Int → Prop,
  ( Ok127 g (-1) (fun r_11 =>
   Ok127 g (-1) (fun r_12 =>
   Ok127 g (-1) (fun r_13 =>
   Jv_2 ([s] : List Int) r_11 r_12 r_13)))) ∧
  ∀ x_2 : List Int, ∀ x_3 : List Int, ∀ x_4 : List Int, ∀ x_5 : List Int, Jv_2 x_2 x_3 x_4 x_5 →
  0 ≤ s ∧ s < ((x_4.length : Nat) : Int) ∧ Ok54 g edgesV (fun r_2 =>
  0 ≤ g ∧ g ≤ 1000000000000 ∧ ∃ Jv : List Int → List Int → List Int → List Int → List Int → Prop,
  ( ∃ (Iv : Int → List Int → List Int → List Int → List Int → List Int → Prop) (m : Int → List Int → List Int → List Int → List Int → List Int → Nat), Iv s x_2 x_3 (x_4.set (Int.toNat s) 0) x_5 (List.replicate (Int.toNat g) (0 : Int)) ∧
   ∀ v37 : Int, ∀ c0_2 : List Int, ∀ c1_2 : List Int, ∀ c2_2 : List Int, ∀ c3_2 : List Int, ∀ x_8 : List Int, Iv v37 c0_2 c1_2 c2_2 c3_2 x_8 →
   cnd (decide (v37 ≥ (0 : Int)))
     (∃ Jv2 : Int → List Int → List Int → List Int → List Int → List Int → Prop,
     ( 0 ≤ v37 ∧ v37 < (((Int.toNat g) : Nat) : Int) ∧ ∀ x_9 : Int, x_8[(Int.toNat v37)]? = some x_9 → 0 ≤ v37 ∧ v37 < ((r_2.length : Nat) : Int) ∧ ∀ r_3 : List Int, r_2[(Int.toNat v37)]? = some r_3 → cnd (x_9 == ((r_3.length : Nat) : Int))
        (0 ≤ v37 ∧ v37 < ((c1_2.length : Nat) : Int) ∧ ∀ c : Int, c1_2[(Int.toNat v37)]? = some c → cnd (decide (c < (0 : Int)))
          (Jv c0_2 c1_2 c2_2 c3_2 x_8)
          (0 ≤ v37 ∧ v37 < ((c1_2.length : Nat) : Int) ∧ ∀ c_2 : Int, c1_2[(Int.toNat v37)]? = some c_2 → Ok88 g edgesV c_2 (fun r =>
          Jv2 r c0_2 c1_2 c2_2 c3_2 x_8)))
        (0 ≤ x_9 ∧ x_9 < ((r_3.length : Nat) : Int) ∧ ∀ x_10 : Int, r_3[(Int.toNat x_9)]? = some x_10 → 0 ≤ v37 ∧ v37 < (((Int.toNat g) : Nat) : Int) ∧ ∀ x_11 : Int, x_8[(Int.toNat v37)]? = some x_11 → Ok55 g edgesV x_10 (fun r2 =>
        0 ≤ r2 ∧ r2 < ((c2_2.length : Nat) : Int) ∧ ∀ c_3 : Int, c2_2[(Int.toNat r2)]? = some c_3 → ∃ Jv3 : Int → List Int → List Int → List Int → List Int → Prop,
        ( cnd (decide (c_3 < (0 : Int)))
           (0 ≤ v37 ∧ v37 < ((c2_2.length : Nat) : Int) ∧ ∀ c_4 : Int, c2_2[(Int.toNat v37)]? = some c_4 → 0 ≤ r2 ∧ r2 < ((c2_2.length : Nat) : Int) ∧ 0 ≤ r2 ∧ r2 < ((c1_2.length : Nat) : Int) ∧ (c0_2.length + 1) < 1000000000000 ∧ Jv3 r2 (c0_2 ++ [r2]) (c1_2.set (Int.toNat r2) x_10) (c2_2.set (Int.toNat r2) (IntKind.i64.wrap (c_4 + (1 : Int)))) c3_2)
           (Jv3 v37 c0_2 c1_2 c2_2 c3_2)) ∧
        ∀ v40 : Int, ∀ c0_4 : List Int, ∀ c1_4 : List Int, ∀ c2_4 : List Int, ∀ c3_4 : List Int, Jv3 v40 c0_4 c1_4 c2_4 c3_4 →
        Jv2 v40 c0_4 c1_4 c2_4 c3_4 (x_8.set (Int.toNat v37) (IntKind.i64.wrap (x_11 + (1 : Int))))))) ∧
     ∀ v41 : Int, ∀ c0_3 : List Int, ∀ c1_3 : List Int, ∀ c2_3 : List Int, ∀ c3_3 : List Int, ∀ x_8_2 : List Int, Jv2 v41 c0_3 c1_3 c2_3 c3_3 x_8_2 →
     Iv v41 c0_3 c1_3 c2_3 c3_3 x_8_2 ∧ m v41 c0_3 c1_3 c2_3 c3_3 x_8_2 < m v37 c0_2 c1_2 c2_2 c3_2 x_8)
     (Jv c0_2 c1_2 c2_2 c3_2 x_8)) ∧
  ∀ c0 : List Int, ∀ c1 : List Int, ∀ c2 : List Int, ∀ c3 : List Int, ∀ x_7 : List Int, Jv c0 c1 c2 c3 x_7 →
  Ok127 g (-1) (fun r_5 =>
  ∃ (Iv2 : Int → List Int → List Int → Prop) (m2 : Int → List Int → List Int → Nat), Iv2 0 c3 r_5 ∧
  ∀ i : Int, ∀ c3_5 : List Int, ∀ r_5_2 : List Int, Iv2 i c3_5 r_5_2 →
  cnd (decide (i < ((c0.length : Nat) : Int)))
    (0 ≤ i ∧ i < ((c0.length : Nat) : Int) ∧ ∀ c_7 : Int, c0[(Int.toNat i)]? = some c_7 → 0 ≤ c_7 ∧ c_7 < ((r_5.length : Nat) : Int) ∧ 0 ≤ i ∧ i < ((c0.length : Nat) : Int) ∧ ∀ c_8 : Int, c0[(Int.toNat i)]? = some c_8 → 0 ≤ c_8 ∧ c_8 < ((c3.length : Nat) : Int) ∧ Iv2 (IntKind.i64.wrap (i + (1 : Int))) (c3_5.set (Int.toNat c_8) i) (r_5_2.set (Int.toNat c_7) i) ∧ m2 (IntKind.i64.wrap (i + (1 : Int))) (c3_5.set (Int.toNat c_8) i) (r_5_2.set (Int.toNat c_7) i) < m2 i c3_5 r_5_2)
    (∃ (Iv3 : Int → List Int → Prop) (m3 : Int → List Int → Nat), Iv3 (IntKind.i64.wrap (((c0.length : Nat) : Int) - (1 : Int))) c3_5 ∧
    ∀ i2 : Int, ∀ c3_5_2 : List Int, Iv3 i2 c3_5_2 →
    cnd (decide (i2 ≥ (0 : Int)))
      (0 ≤ i2 ∧ i2 < ((c0.length : Nat) : Int) ∧ ∀ c_10 : Int, c0[(Int.toNat i2)]? = some c_10 → ∃ (Iv4 : Int → List Int → Prop) (m4 : Int → List Int → Nat), Iv4 0 c3_5_2 ∧
      ∀ k : Int, ∀ c3_5_2_2 : List Int, Iv4 k c3_5_2_2 →
      0 ≤ c_10 ∧ c_10 < ((r_2.length : Nat) : Int) ∧ ∀ r_7 : List Int, r_2[(Int.toNat c_10)]? = some r_7 → cnd (decide (k < ((r_7.length : Nat) : Int)))
        (∃ Jv_3 : List Int → Prop,
        ( 0 ≤ k ∧ k < ((r_7.length : Nat) : Int) ∧ ∀ x_12 : Int, r_7[(Int.toNat k)]? = some x_12 → Ok55 g edgesV x_12 (fun r3 =>
         0 ≤ c_10 ∧ c_10 < ((c1.length : Nat) : Int) ∧ ∀ c_11 : Int, c1[(Int.toNat c_10)]? = some c_11 → cnd (decide (c_11 ≥ (0 : Int)))
           ((2 : Int) ≠ 0 ∧ (2 : Int) ≠ 0 ∧ ∃ Jv4 : List Int → Prop,
           ( cnd ((IntKind.i64.wrap (Int.tdiv x_12 (2 : Int))) == (IntKind.i64.wrap (Int.tdiv c_11 (2 : Int))))
              (Jv4 c3_5_2_2)
              (0 ≤ r3 ∧ r3 < ((c1.length : Nat) : Int) ∧ ∀ c_12 : Int, c1[(Int.toNat r3)]? = some c_12 → ∃ Jv5 : List Int → Prop,
              ( cnd (c_12 == x_12)
                 (0 ≤ c_10 ∧ c_10 < ((c3.length : Nat) : Int) ∧ ∀ c_13 : Int, c3_5_2_2[(Int.toNat c_10)]? = some c_13 → 0 ≤ r3 ∧ r3 < ((c3.length : Nat) : Int) ∧ ∀ c_14 : Int, c3_5_2_2[(Int.toNat r3)]? = some c_14 → Jv5 (c3_5_2_2.set (Int.toNat c_10) (if c_14 < c_13 then c_14 else c_13)))
                 (0 ≤ c_10 ∧ c_10 < ((c3.length : Nat) : Int) ∧ ∀ c_15 : Int, c3_5_2_2[(Int.toNat c_10)]? = some c_15 → 0 ≤ r3 ∧ r3 < ((r_5.length : Nat) : Int) ∧ ∀ r_9 : Int, r_5_2[(Int.toNat r3)]? = some r_9 → Jv5 (c3_5_2_2.set (Int.toNat c_10) (if r_9 < c_15 then r_9 else c_15)))) ∧
              ∀ c3_5_2_2_4 : List Int, Jv5 c3_5_2_2_4 →
              Jv4 c3_5_2_2_4)) ∧
           ∀ c3_5_2_2_3 : List Int, Jv4 c3_5_2_2_3 →
           Jv_3 c3_5_2_2_3)
           (0 ≤ r3 ∧ r3 < ((c1.length : Nat) : Int) ∧ ∀ c_16 : Int, c1[(Int.toNat r3)]? = some c_16 → ∃ Jv6 : List Int → Prop,
           ( cnd (c_16 == x_12)
              (0 ≤ c_10 ∧ c_10 < ((c3.length : Nat) : Int) ∧ ∀ c_17 : Int, c3_5_2_2[(Int.toNat c_10)]? = some c_17 → 0 ≤ r3 ∧ r3 < ((c3.length : Nat) : Int) ∧ ∀ c_18 : Int, c3_5_2_2[(Int.toNat r3)]? = some c_18 → Jv6 (c3_5_2_2.set (Int.toNat c_10) (if c_18 < c_17 then c_18 else c_17)))
              (0 ≤ c_10 ∧ c_10 < ((c3.length : Nat) : Int) ∧ ∀ c_19 : Int, c3_5_2_2[(Int.toNat c_10)]? = some c_19 → 0 ≤ r3 ∧ r3 < ((r_5.length : Nat) : Int) ∧ ∀ r_10 : Int, r_5_2[(Int.toNat r3)]? = some r_10 → Jv6 (c3_5_2_2.set (Int.toNat c_10) (if r_10 < c_19 then r_10 else c_19)))) ∧
           ∀ c3_5_2_2_5 : List Int, Jv6 c3_5_2_2_5 →
           Jv_3 c3_5_2_2_5))) ∧
        ∀ c3_5_2_2_2 : List Int, Jv_3 c3_5_2_2_2 →
        Iv4 (IntKind.i64.wrap (k + (1 : Int))) c3_5_2_2_2 ∧ m4 (IntKind.i64.wrap (k + (1 : Int))) c3_5_2_2_2 < m4 k c3_5_2_2)
        (Iv3 (IntKind.i64.wrap (i2 - (1 : Int))) c3_5_2_2 ∧ m3 (IntKind.i64.wrap (i2 - (1 : Int))) c3_5_2_2 < m3 i2 c3_5_2))
      (R c0 c1 c2 c3_5_2))))
theorem ok85 {g edgesV s} {R : List Int → List Int → List Int → List Int → Prop} (T : T85 g edgesV s R) : Ok85 g edgesV s R := by
  intro h gA gL gC H
  have Y : Sy h [] h _ := Sy.startM H rfl
  obtain rfl := Y.lenV 0 rfl
  apply calls85
  unfold S85
  unfold T85 at T
  intro hv
  have Y : Sy _ _ hv [_, _] := Y.junk _
  clear_value hv
  intro hv2
  have Y : Sy _ _ hv2 [_, _, _] := Y.junk _
  clear_value hv2
  obtain ⟨Jv_2, T0, T1⟩ := T
  obtain ⟨B, hB, _⟩ := Y.cut [] [0, 1, 2] rfl
  intro K
  have hK : ∀ (p : Nat) (xA : Option Addr) (xL xC : Nat) (xA2 : Option Addr) (xL2 xC2 : Nat) (xA3 : Option Addr) (xL3 xC3 : Nat) (xA4 : Option Addr) (xL4 xC4 : Nat) (hv66 : Heap), (∃ (x_2 : List Int) (x_3 : List Int) (x_4 : List Int) (x_5 : List Int), Sy h [] hv66 ([Ck.sl eI 3 xA xL xC x_2, Ck.sl eI 3 xA2 xL2 xC2 x_3, Ck.sl eI 3 xA3 xL3 xC3 x_4, Ck.sl eI 3 xA4 xL4 xC4 x_5, Ck.junk p] ++ B) ∧ Jv_2 x_2 x_3 x_4 x_5) → K p xA xL xC xA2 xL2 xC2 xA3 xL3 xC3 xA4 xL4 xC4 hv66 := by
    subst hB
    clear T0 Y
    rintro p xA xL xC xA2 xL2 xC2 xA3 xL3 xC3 xA4 xL4 xC4 hv66 ⟨x_2, x_3, x_4, x_5, Y, T⟩
    obtain rfl := Y.lenS 0 rfl
    obtain rfl := Y.lenS 1 rfl
    obtain rfl := Y.lenS 2 rfl
    obtain rfl := Y.lenS 3 rfl
    replace T := T1 x_2 x_3 x_4 x_5 T
    have Y : Sy _ _ _ [_, _, _, _, _, _, _, _] := Y
    unfold K
    intro hv67
    have Y : Sy _ _ hv67 [_, _, _, _, _, _, _, _] := ((((Y.stJ 4 rfl _ _).stJ 4 rfl _ _).stJ 4 rfl _ _).stJ 4 rfl _ _)
    clear_value hv67
    obtain ⟨q, q_2, T⟩ := T
    obtain ⟨b_2, hb, ho, x_6, hx⟩ := Y.atS 2 rfl q q_2
    refine ⟨b_2, 0, hb, q, q_2, ?_⟩
    refine ⟨(Y.neJ 2 4 rfl rfl rfl ho), (Y.neJ 2 7 rfl rfl rfl ho), (Y.neJ 2 6 rfl rfl rfl ho), Y.cellEx 2 rfl hb (t := 0) (by omega) (by decide), Y.freeS 2 rfl hb _, ?_⟩
    intro hv68
    have Y : Sy _ _ hv68 [_, _, _, _, _, _, _, _] := Y.st1 2 rfl hb 0 (by omega) rfl
    clear_value hv68
    refine callX_sy (T _ _ _ _ (Y.pick [5] rfl).hp) (fun _ _ ⟨_, _, _, _, _, p, _⟩ => p.fr) (allc (fun h => by cases h) (allc (fun h => by cases h) (allc (fun h => by cases h) alln))) ?_
    rintro v36 hv69 ⟨rA36, rL36, rC36, rH, r_2, PP, rfl, T⟩
    have Y : Sy _ _ hv69 [_, _, _, _, _, _, _, _, _] := Y.callV PP ⟨rfl, trivial⟩
    clear PP
    obtain rfl := Y.lenR 8 rfl
    refine ⟨_, _, _, rfl, ?_⟩
    obtain ⟨q_3, q_5, T⟩ := T
    refine ⟨q_3, Int.le_refl _, by omega, by omega, ?_⟩
    intro hv70
    have Y : Sy _ _ hv70 [_, _, _, _, _, _, _, _, _, _] := Y.mkS (E := eI) (ty := 3) (0 : Int) (Int.toNat g) (Int.toNat g) (Nat.le_refl _) (by simp [maxLen]; omega)
    clear_value hv70
    obtain ⟨Jv, T0, T1⟩ := T
    obtain ⟨B_2, hB_2, _⟩ := Y.cut [] [4, 5, 6, 7, 8] rfl
    obtain ⟨F, hF⟩ := Y.fnS (k := 9) rfl
    refine ⟨fun lz h' => ∃ (c0A4 : Option Addr) (c0L4 c0C4 : Nat) (c0 : List Int) (c1A4 : Option Addr) (c1L4 c1C4 : Nat) (c1 : List Int) (c2A4 : Option Addr) (c2L4 c2C4 : Nat) (c2 : List Int) (c3A4 : Option Addr) (c3L4 c3C4 : Nat) (c3 : List Int) (x_7 : List Int), lz = [.slice c0A4 c0L4 c0C4, .slice c1A4 c1L4 c1C4, .slice c2A4 c2L4 c2C4, .slice c3A4 c3L4 c3C4] ∧ Sy h [] h' ([Ck.sl eI 3 c0A4 c0L4 c0C4 c0, Ck.sl eI 3 c1A4 c1L4 c1C4 c1, Ck.sl eI 3 c2A4 c2L4 c2C4 c2, Ck.sl eI 3 c3A4 c3L4 c3C4 c3, F x_7] ++ B_2) ∧ Jv c0 c1 c2 c3 x_7, ?_, ?_⟩
    · subst hB_2 hF
      replace T := T0
      clear T0 T1
      obtain ⟨Iv, m, T0, T1⟩ := T
      obtain ⟨B_3, hB_3, YB⟩ := Y.cut [0, 1, 2, 3, 9] [4, 5, 6, 7, 8] rfl
      obtain ⟨F_2, hF_2⟩ := Y.fnS (k := 9) rfl
      obtain ⟨JJ, hJJ⟩ : ∃ JJ : Nat → List Value → Heap → Prop, JJ = (fun k_2 lz h' => ∃ (v37 : Int) (c0A : Option Addr) (c0L c0C : Nat) (c0_2 : List Int) (c1A : Option Addr) (c1L c1C : Nat) (c1_2 : List Int) (c2A : Option Addr) (c2L c2C : Nat) (c2_2 : List Int) (c3A : Option Addr) (c3L c3C : Nat) (c3_2 : List Int) (x_8 : List Int), lz = [.int .i64 v37, .slice c0A c0L c0C, .slice c1A c1L c1C, .slice c2A c2L c2C, .slice c3A c3L c3C] ∧ Sy h [] h' ([Ck.sl eI 3 c0A c0L c0C c0_2, Ck.sl eI 3 c1A c1L c1C c1_2, Ck.sl eI 3 c2A c2L c2C c2_2, Ck.sl eI 3 c3A c3L c3C c3_2, F_2 x_8] ++ B_3) ∧ Iv v37 c0_2 c1_2 c2_2 c3_2 x_8 ∧ m v37 c0_2 c1_2 c2_2 c3_2 x_8 = k_2) := ⟨_, rfl⟩
      refine ⟨fun lz h' => ∃ k_2, JJ k_2 lz h', Lm JJ, ?_, ?_⟩
      · subst hJJ hB_3 hF_2
        exact ⟨_, _, _, _, _, _, _, _, _, _, _, _, _, _, _, _, _, _, _, rfl, YB, T0, rfl⟩
      · clear YB T0 Y
        intro v37 c0A c0L c0C c1A c1L c1C c2A c2L c2C c3A c3L c3C hv71 hI
        obtain ⟨k_2, hI, hm⟩ := loopIn hI
        subst hJJ hB_3 hF_2
        obtain ⟨v37, c0A, c0L, c0C, c0_2, c1A, c1L, c1C, c1_2, c2A, c2L, c2C, c2_2, c3A, c3L, c3C, c3_2, x_8, e, Y, T, rfl⟩ := hI
        cases e
        obtain rfl := Y.lenS 0 rfl
        obtain rfl := Y.lenS 1 rfl
        obtain rfl := Y.lenS 2 rfl
        obtain rfl := Y.lenS 3 rfl
        replace T := T1 v37 c0_2 c1_2 c2_2 c3_2 x_8 T
        have Y : Sy _ _ _ [_, _, _, _, _, _, _, _, _, _] := Y
        refine cnd_imp T (fun T => ?_) (fun T => ?_)
        · obtain ⟨Jv2, T0, T1⟩ := T
          obtain ⟨B_4, hB_4, _⟩ := Y.cut [] [5, 6, 7, 8, 9] rfl
          obtain ⟨F_3, hF_3⟩ := Y.fnS (k := 4) rfl
          refine ⟨fun lz h' => ∃ (v41 : Int) (c0A3 : Option Addr) (c0L3 c0C3 : Nat) (c0_3 : List Int) (c1A3 : Option Addr) (c1L3 c1C3 : Nat) (c1_3 : List Int) (c2A3 : Option Addr) (c2L3 c2C3 : Nat) (c2_3 : List Int) (c3A3 : Option Addr) (c3L3 c3C3 : Nat) (c3_3 : List Int) (x_8_2 : List Int), lz = [.int .i64 v41, .slice c0A3 c0L3 c0C3, .slice c1A3 c1L3 c1C3, .slice c2A3 c2L3 c2C3, .slice c3A3 c3L3 c3C3] ∧ Sy h [] h' ([Ck.sl eI 3 c0A3 c0L3 c0C3 c0_3, Ck.sl eI 3 c1A3 c1L3 c1C3 c1_3, Ck.sl eI 3 c2A3 c2L3 c2C3 c2_3, Ck.sl eI 3 c3A3 c3L3 c3C3 c3_3, F_3 x_8_2] ++ B_4) ∧ Jv2 v41 c0_3 c1_3 c2_3 c3_3 x_8_2, ?_, ?_⟩
          · subst hB_4 hF_3
            replace T := T0
            clear T0 T1
            have Y0 := Y
            have F : Fr [] hv71 hv71 := Fr.refl _ _
            obtain ⟨q_6, q_7, T⟩ := T
            obtain ⟨b_3, hb_2, ho_2, x_9, hx_2⟩ := Y0.atS 4 rfl q_6 q_7
            refine ⟨b_3, 0, hb_2, q_6, q_7, ?_⟩
            replace T := T x_9 hx_2
            refine ⟨_, Y0.cellS 4 rfl hb_2 (t := 0) hx_2 rfl, ?_⟩
            obtain ⟨q_8, q_9, T⟩ := T
            obtain ⟨b_4, hb_3, ho_3, r_3, hx_3, r_4, hr⟩ := Y0.atR 9 rfl q_8 q_9
            refine ⟨b_4, 0, hb_3, q_8, q_9, ?_⟩
            replace T := T r_3 hx_3
            refine ⟨_, _, _, Y0.cellR 9 rfl hb_3 hr hx_3, ?_⟩
            refine cnd_imp T (fun T => ?_) (fun T => ?_)
            · obtain ⟨q_10, q_11, T⟩ := T
              obtain ⟨b_5, hb_4, ho_4, c, hx_4⟩ := Y.atS 1 rfl q_10 q_11
              refine ⟨b_5, 0, hb_4, q_10, q_11, ?_⟩
              replace T := T c hx_4
              refine ⟨_, Y.cellS 1 rfl hb_4 (t := 0) hx_4 rfl, ?_⟩
              refine cnd_imp T (fun T => ?_) (fun T => ?_)
              · exact ⟨_, _, _, _, _, _, _, _, _, _, _, _, _, _, _, _, _, rfl, Y.pick [0, 1, 2, 3, 4, 5, 6, 7, 8, 9] rfl, T⟩
              · have Y0 := Y
                have F : Fr [] hv71 hv71 := Fr.refl _ _
                obtain ⟨q_12, q_13, T⟩ := T
                obtain ⟨b_6, hb_5, ho_5, c_2, hx_5⟩ := Y0.atS 1 rfl q_12 q_13
                refine ⟨b_6, 0, hb_5, q_12, q_13, ?_⟩
                replace T := T c_2 hx_5
                refine ⟨_, Y0.cellS 1 rfl hb_5 (t := 0) hx_5 rfl, ?_⟩
                refine callX_sy (T _ _ _ _ (Y.pick [6] rfl).hp) (fun _ _ ⟨_, p, _⟩ => p.fr) (allc (fun h => by cases h) (allc (fun h => by cases h) (allc (fun h => by cases h) alln))) ?_
                rintro v38 hv72 ⟨r, PP, rfl, T⟩
                have F : Fr _ _ hv72 := F.trans PP.fr.nil
                have fshv72 := F.size
                have Y : Sy _ _ hv72 [_, _, _, _, _, _, _, _, _, _] := Y.gr PP.fr
                clear PP
                refine ⟨r, rfl, ?_⟩
                refine ⟨F, ?_⟩
                exact ⟨_, _, _, _, _, _, _, _, _, _, _, _, _, _, _, _, _, _, rfl, Y.pick [0, 1, 2, 3, 4, 5, 6, 7, 8, 9] rfl, T⟩
            · have Y0 := Y
              have F : Fr [] hv71 hv71 := Fr.refl _ _
              refine ⟨b_4, 0, hb_3, q_8, q_9, ?_⟩
              refine ⟨_, _, _, Y0.cellR 9 rfl hb_3 hr hx_3, ?_⟩
              refine ⟨b_3, 0, hb_2, q_6, q_7, ?_⟩
              refine ⟨_, Y0.cellS 4 rfl hb_2 (t := 0) hx_2 rfl, ?_⟩
              obtain ⟨q_14, q_15, T⟩ := T
              obtain ⟨b_7, hb_6, ho_6, x_10, hx_6⟩ := Y0.atRow 9 rfl hr hx_3 q_14 q_15
              refine ⟨b_7, 0, hb_6, q_14, q_15, ?_⟩
              replace T := T x_10 hx_6
              refine ⟨_, Y0.cellRow 9 rfl hr hx_3 hb_6 (t := 0) hx_6 rfl, ?_⟩
              obtain ⟨q_16, q_17, T⟩ := T
              obtain ⟨b_8, hb_7, ho_7, x_11, hx_7⟩ := Y.atS 4 rfl q_16 q_17
              refine ⟨b_8, 0, hb_7, q_16, q_17, ?_⟩
              replace T := T x_11 hx_7
              refine ⟨_, Y.cellS 4 rfl hb_7 (t := 0) hx_7 rfl, ?_⟩
              refine ⟨b_8, 0, hb_7, q_16, q_17, ?_⟩
              refine ⟨(Y.neJ 4 5 rfl rfl rfl ho_7), (Y.neJ 4 7 rfl rfl rfl ho_7), (Y.neJ 4 8 rfl rfl rfl ho_7), Y.cellEx 4 rfl hb_7 (t := 0) (by omega) (by decide), Y.freeS 4 rfl hb_7 _, ?_⟩
              intro hv73
              have Y : Sy _ _ hv73 [_, _, _, _, _, _, _, _, _, _] := Y.st1 4 rfl hb_7 (IntKind.i64.wrap (x_11 + (1 : Int))) (by omega) rfl
              clear_value hv73
              refine callX_sy (T _ _ _ _ (Y.pick [6] rfl).hp) (fun _ _ ⟨_, p, _⟩ => p.fr) (allc (fun h => by cases h) (allc (fun h => by cases h) (allc (fun h => by cases h) alln))) ?_
              rintro v39 hv74 ⟨r2, PP, rfl, T⟩
              have Y : Sy _ _ hv74 [_, _, _, _, _, _, _, _, _, _] := Y.gr PP.fr
              clear PP
              refine ⟨r2, rfl, ?_⟩
              obtain ⟨q_18, q_19, T⟩ := T
              obtain ⟨b_9, hb_8, ho_8, c_3, hx_8⟩ := Y.atS 2 rfl q_18 q_19
              refine ⟨b_9, 0, hb_8, q_18, q_19, ?_⟩
              replace T := T c_3 hx_8
              refine ⟨_, Y.cellS 2 rfl hb_8 (t := 0) hx_8 rfl, ?_⟩
              obtain ⟨Jv3, T0, T1⟩ := T
              obtain ⟨B_5, hB_5, _⟩ := Y.cut [] [4, 5, 6, 7, 8, 9] rfl
              refine ⟨fun lz h' => ∃ (v40 : Int) (c0A2 : Option Addr) (c0L2 c0C2 : Nat) (c0_4 : List Int) (c1A2 : Option Addr) (c1L2 c1C2 : Nat) (c1_4 : List Int) (c2A2 : Option Addr) (c2L2 c2C2 : Nat) (c2_4 : List Int) (c3A2 : Option Addr) (c3L2 c3C2 : Nat) (c3_4 : List Int), lz = [.int .i64 v40, .slice c0A2 c0L2 c0C2, .slice c1A2 c1L2 c1C2, .slice c2A2 c2L2 c2C2, .slice c3A2 c3L2 c3C2] ∧ Sy h [] h' ([Ck.sl eI 3 c0A2 c0L2 c0C2 c0_4, Ck.sl eI 3 c1A2 c1L2 c1C2 c1_4, Ck.sl eI 3 c2A2 c2L2 c2C2 c2_4, Ck.sl eI 3 c3A2 c3L2 c3C2 c3_4] ++ B_5) ∧ Jv3 v40 c0_4 c1_4 c2_4 c3_4, ?_, ?_⟩
              · subst hB_5
                replace T := T0
                clear T0 T1
                refine cnd_imp T (fun T => ?_) (fun T => ?_)
                · have Y0 := Y
                  have F : Fr [] hv74 hv74 := Fr.refl _ _
                  obtain ⟨q_20, q_21, T⟩ := T
                  obtain ⟨b_10, hb_9, ho_9, c_4, hx_9⟩ := Y0.atS 2 rfl q_20 q_21
                  refine ⟨b_10, 0, hb_9, q_20, q_21, ?_⟩
                  replace T := T c_4 hx_9
                  refine ⟨_, Y0.cellS 2 rfl hb_9 (t := 0) hx_9 rfl, ?_⟩
                  obtain ⟨q_22, q_23, T⟩ := T
                  obtain ⟨b_11, hb_10, ho_10, c_5, hx_10⟩ := Y0.atS 2 rfl q_22 q_23
                  refine ⟨b_11, 0, hb_10, q_22, q_23, ?_⟩
                  refine ⟨(Y.neJ 2 5 rfl rfl rfl ho_10), (Y.neJ 2 7 rfl rfl rfl ho_10), (Y.neJ 2 8 rfl rfl rfl ho_10), Y.cellEx 2 rfl hb_10 (t := 0) (by omega) (by decide), Y.freeS 2 rfl hb_10 _, ?_⟩
                  intro hv75
                  have Y : Sy _ _ hv75 [_, _, _, _, _, _, _, _, _, _] := Y.st1 2 rfl hb_10 (IntKind.i64.wrap (c_4 + (1 : Int))) (by omega) rfl
                  clear_value hv75
                  obtain ⟨q_24, q_25, T⟩ := T
                  obtain ⟨b_12, hb_11, ho_11, c_6, hx_11⟩ := Y.atS 1 rfl q_24 q_25
                  refine ⟨b_12, 0, hb_11, q_24, q_25, ?_⟩
                  refine ⟨(Y.neJ 1 5 rfl rfl rfl ho_11), (Y.neJ 1 7 rfl rfl rfl ho_11), (Y.neJ 1 8 rfl rfl rfl ho_11), Y.cellEx 1 rfl hb_11 (t := 0) (by omega) (by decide), Y.freeS 1 rfl hb_11 _, ?_⟩
                  intro hv76
                  have Y : Sy _ _ hv76 [_, _, _, _, _, _, _, _, _, _] := Y.st1 1 rfl hb_11 x_10 (by omega) rfl
                  clear_value hv76
                  intro hv77
                  have Y : Sy _ _ hv77 [_, _, _, _, _, _, _, _, _, _, _] := Y.junk _
                  clear_value hv77
                  obtain ⟨q_26, T⟩ := T
                  refine ⟨_, Y.ownS 0 rfl, (allc (Y.nJ 0 10 rfl rfl rfl) (allc (Y.nJ 0 5 rfl rfl rfl) (allc (Y.nJ 0 7 rfl rfl rfl) (allc (Y.nJ 0 8 rfl rfl rfl) alln)))), by first | exact appB q_26 (by decide) | omega, by first | exact appM q_26 | (simp [maxLen]; omega), ?_⟩
                  intro sA sC hv78 ow fA gA gB
                  have Y : Sy _ _ hv78 [_, _, _, _, _, _, _, _, _, _, _] := Y.appS 0 rfl ([r2] : List Int) ow fA gA rfl rfl
                  intro hv79
                  have Y : Sy _ _ hv79 [_, _, _, _, _, _, _, _, _, _, _] := (Y.stJ 5 rfl _ _)
                  clear_value hv79
                  exact ⟨_, _, _, _, _, _, _, _, _, _, _, _, _, _, _, _, _, rfl, Y.pick [0, 1, 2, 3, 4, 5, 6, 7, 8, 9] rfl, T⟩
                · exact ⟨_, _, _, _, _, _, _, _, _, _, _, _, _, _, _, _, _, rfl, Y.pick [0, 1, 2, 3, 4, 5, 6, 7, 8, 9] rfl, T⟩
              · subst hB_5
                clear T0 Y
                rintro v40 c0A2 c0L2 c0C2 c1A2 c1L2 c1C2 c2A2 c2L2 c2C2 c3A2 c3L2 c3C2 hv80 ⟨v40, c0A2, c0L2, c0C2, c0_4, c1A2, c1L2, c1C2, c1_4, c2A2, c2L2, c2C2, c2_4, c3A2, c3L2, c3C2, c3_4, e, Y, T⟩
                cases e
                obtain rfl := Y.lenS 0 rfl
                obtain rfl := Y.lenS 1 rfl
                obtain rfl := Y.lenS 2 rfl
                obtain rfl := Y.lenS 3 rfl
                replace T := T1 v40 c0_4 c1_4 c2_4 c3_4 T
                have Y : Sy _ _ _ [_, _, _, _, _, _, _, _, _, _] := Y
                exact ⟨_, _, _, _, _, _, _, _, _, _, _, _, _, _, _, _, _, _, rfl, Y.pick [0, 1, 2, 3, 4, 5, 6, 7, 8, 9] rfl, T⟩
          · subst hB_4 hF_3
            clear T0 Y
            rintro v41 c0A3 c0L3 c0C3 c1A3 c1L3 c1C3 c2A3 c2L3 c2C3 c3A3 c3L3 c3C3 hv81 ⟨v41, c0A3, c0L3, c0C3, c0_3, c1A3, c1L3, c1C3, c1_3, c2A3, c2L3, c2C3, c2_3, c3A3, c3L3, c3C3, c3_3, x_8_2, e, Y, T⟩
            cases e
            obtain rfl := Y.lenS 0 rfl
            obtain rfl := Y.lenS 1 rfl
            obtain rfl := Y.lenS 2 rfl
            obtain rfl := Y.lenS 3 rfl
            replace T := T1 v41 c0_3 c1_3 c2_3 c3_3 x_8_2 T
            have Y : Sy _ _ _ [_, _, _, _, _, _, _, _, _, _] := Y
            exact loopBack hm ⟨_, _, _, _, _, _, _, _, _, _, _, _, _, _, _, _, _, _, rfl, Y.pick [0, 1, 2, 3, 4, 5, 6, 7, 8, 9] rfl, T.1, rfl⟩ T.2
        · exact ⟨_, _, _, _, _, _, _, _, _, _, _, _, _, _, _, _, _, rfl, Y.pick [0, 1, 2, 3, 4, 5, 6, 7, 8, 9] rfl, T⟩
    · subst hB_2 hF
      clear T0 Y
      rintro c0A4 c0L4 c0C4 c1A4 c1L4 c1C4 c2A4 c2L4 c2C4 c3A4 c3L4 c3C4 hv82 ⟨c0A4, c0L4, c0C4, c0, c1A4, c1L4, c1C4, c1, c2A4, c2L4, c2C4, c2, c3A4, c3L4, c3C4, c3, x_7, e, Y, T⟩
      cases e
      obtain rfl := Y.lenS 0 rfl
      obtain rfl := Y.lenS 1 rfl
      obtain rfl := Y.lenS 2 rfl
      obtain rfl := Y.lenS 3 rfl
      replace T := T1 c0 c1 c2 c3 x_7 T
      have Y : Sy _ _ _ [_, _, _, _, _, _, _, _, _, _] := Y
      refine callX_sy (T _ (Hp.nil _)) (fun _ _ ⟨_, _, _, _, p, _⟩ => p.fr) (allc (fun h => by cases h) (allc (fun h => by cases h) (allc (fun h => by cases h) alln))) ?_
      rintro v42 hv83 ⟨rA37, rL37, rC37, r_5, PP, rfl, T⟩
      have Y : Sy _ _ hv83 [_, _, _, _, _, _, _, _, _, _, _] := Y.callV PP ⟨rfl, trivial⟩
      clear PP
      obtain rfl := Y.lenS 10 rfl
      refine ⟨_, _, _, rfl, ?_⟩
      obtain ⟨Iv2, m2, T0, T1⟩ := T
      obtain ⟨B_6, hB_6, YB⟩ := Y.cut [3, 10] [0, 1, 2, 4, 5, 6, 7, 8, 9] rfl
      obtain ⟨F_4, hF_4⟩ := Y.fnS (k := 3) rfl
      obtain ⟨F_5, hF_5⟩ := Y.fnS (k := 10) rfl
      obtain ⟨JJ_2, hJJ_2⟩ : ∃ JJ_2 : Nat → List Value → Heap → Prop, JJ_2 = (fun k_3 lz h' => ∃ (i : Int) (c3_5 : List Int) (r_5_2 : List Int), lz = [.int .i64 i] ∧ Sy h [] h' ([F_4 c3_5, F_5 r_5_2] ++ B_6) ∧ Iv2 i c3_5 r_5_2 ∧ m2 i c3_5 r_5_2 = k_3) := ⟨_, rfl⟩
      refine ⟨fun lz h' => ∃ k_3, JJ_2 k_3 lz h', Lm JJ_2, ?_, ?_⟩
      · subst hJJ_2 hB_6 hF_4 hF_5
        exact ⟨_, _, _, _, rfl, YB, T0, rfl⟩
      · clear YB T0 Y
        intro i hv84 hI
        obtain ⟨k_3, hI, hm_2⟩ := loopIn hI
        subst hJJ_2 hB_6 hF_4 hF_5
        obtain ⟨i, c3_5, r_5_2, e, Y, T, rfl⟩ := hI
        cases e
        replace T := T1 i c3_5 r_5_2 T
        have Y : Sy _ _ _ [_, _, _, _, _, _, _, _, _, _, _] := Y
        refine cnd_imp T (fun T => ?_) (fun T => ?_)
        · obtain ⟨q_27, q_28, T⟩ := T
          obtain ⟨b_13, hb_12, ho_12, c_7, hx_12⟩ := Y.atS 2 rfl q_27 q_28
          refine ⟨b_13, 0, hb_12, q_27, q_28, ?_⟩
          replace T := T c_7 hx_12
          refine ⟨_, Y.cellS 2 rfl hb_12 (t := 0) hx_12 rfl, ?_⟩
          obtain ⟨q_29, q_30, T⟩ := T
          obtain ⟨b_14, hb_13, ho_13, r_6, hx_13⟩ := Y.atS 1 rfl q_29 q_30
          refine ⟨b_14, 0, hb_13, q_29, q_30, ?_⟩
          refine ⟨(Y.neJ 1 8 rfl rfl rfl ho_13), (Y.neJ 1 9 rfl rfl rfl ho_13), (Y.neJ 1 6 rfl rfl rfl ho_13), Y.cellEx 1 rfl hb_13 (t := 0) (by omega) (by decide), Y.freeS 1 rfl hb_13 _, ?_⟩
          intro hv85
          have Y : Sy _ _ hv85 [_, _, _, _, _, _, _, _, _, _, _] := Y.st1 1 rfl hb_13 i (by omega) rfl
          clear_value hv85
          have Y0 := Y
          have F : Fr [] hv85 hv85 := Fr.refl _ _
          obtain ⟨q_31, q_32, T⟩ := T
          obtain ⟨b_15, hb_14, ho_14, c_8, hx_14⟩ := Y0.atS 2 rfl q_31 q_32
          refine ⟨b_15, 0, hb_14, q_31, q_32, ?_⟩
          replace T := T c_8 hx_14
          refine ⟨_, Y0.cellS 2 rfl hb_14 (t := 0) hx_14 rfl, ?_⟩
          obtain ⟨q_33, q_34, T⟩ := T
          obtain ⟨b_16, hb_15, ho_15, c_9, hx_15⟩ := Y0.atS 0 rfl q_33 q_34
          refine ⟨b_16, 0, hb_15, q_33, q_34, ?_⟩
          refine ⟨(Y.neJ 0 8 rfl rfl rfl ho_15), (Y.neJ 0 9 rfl rfl rfl ho_15), (Y.neJ 0 6 rfl rfl rfl ho_15), Y.cellEx 0 rfl hb_15 (t := 0) (by omega) (by decide), Y.freeS 0 rfl hb_15 _, ?_⟩
          intro hv86
          have Y : Sy _ _ hv86 [_, _, _, _, _, _, _, _, _, _, _] := Y.st1 0 rfl hb_15 i (by omega) rfl
          clear_value hv86
          exact loopBack hm_2 ⟨_, _, _, rfl, Y.pick [0, 1, 2, 3, 4, 5, 6, 7, 8, 9, 10] rfl, T.1, rfl⟩ T.2
        · obtain ⟨Iv3, m3, T0, T1⟩ := T
          obtain ⟨B_7, hB_7, YB⟩ := Y.cut [0] [1, 2, 3, 4, 5, 6, 7, 8, 9, 10] rfl
          obtain ⟨F_6, hF_6⟩ := Y.fnS (k := 0) rfl
          obtain ⟨JJ_3, hJJ_3⟩ : ∃ JJ_3 : Nat → List Value → Heap → Prop, JJ_3 = (fun k_4 lz h' => ∃ (i2 : Int) (c3_5_2 : List Int), lz = [.int .i64 i2] ∧ Sy h [] h' ([F_6 c3_5_2] ++ B_7) ∧ Iv3 i2 c3_5_2 ∧ m3 i2 c3_5_2 = k_4) := ⟨_, rfl⟩
          refine ⟨fun lz h' => ∃ k_4, JJ_3 k_4 lz h', Lm JJ_3, ?_, ?_⟩
          · subst hJJ_3 hB_7 hF_6
            exact ⟨_, _, _, rfl, YB, T0, rfl⟩
          · clear YB T0 Y
            intro i2 hv87 hI
            obtain ⟨k_4, hI, hm_3⟩ := loopIn hI
            subst hJJ_3 hB_7 hF_6
            obtain ⟨i2, c3_5_2, e, Y, T, rfl⟩ := hI
            cases e
            replace T := T1 i2 c3_5_2 T
            have Y : Sy _ _ _ [_, _, _, _, _, _, _, _, _, _, _] := Y
            refine cnd_imp T (fun T => ?_) (fun T => ?_)
            · obtain ⟨q_35, q_36, T⟩ := T
              obtain ⟨b_17, hb_16, ho_16, c_10, hx_16⟩ := Y.atS 2 rfl q_35 q_36
              refine ⟨b_17, 0, hb_16, q_35, q_36, ?_⟩
              replace T := T c_10 hx_16
              refine ⟨_, Y.cellS 2 rfl hb_16 (t := 0) hx_16 rfl, ?_⟩
              obtain ⟨Iv4, m4, T0, T1⟩ := T
              obtain ⟨B_8, hB_8, YB⟩ := Y.cut [0] [1, 2, 3, 4, 5, 6, 7, 8, 9, 10] rfl
              obtain ⟨F_7, hF_7⟩ := Y.fnS (k := 0) rfl
              obtain ⟨JJ_4, hJJ_4⟩ : ∃ JJ_4 : Nat → List Value → Heap → Prop, JJ_4 = (fun k_5 lz h' => ∃ (k : Int) (c3_5_2_2 : List Int), lz = [.int .i64 k] ∧ Sy h [] h' ([F_7 c3_5_2_2] ++ B_8) ∧ Iv4 k c3_5_2_2 ∧ m4 k c3_5_2_2 = k_5) := ⟨_, rfl⟩
              refine ⟨fun lz h' => ∃ k_5, JJ_4 k_5 lz h', Lm JJ_4, ?_, ?_⟩
              · subst hJJ_4 hB_8 hF_7
                exact ⟨_, _, _, rfl, YB, T0, rfl⟩
              · clear YB T0 Y
                intro k hv88 hI
                obtain ⟨k_5, hI, hm_4⟩ := loopIn hI
                subst hJJ_4 hB_8 hF_7
                obtain ⟨k, c3_5_2_2, e, Y, T, rfl⟩ := hI
                cases e
                replace T := T1 k c3_5_2_2 T
                have Y : Sy _ _ _ [_, _, _, _, _, _, _, _, _, _, _] := Y
                obtain ⟨q_37, q_38, T⟩ := T
                obtain ⟨b_18, hb_17, ho_17, r_7, hx_17, r_8, hr_2⟩ := Y.atR 10 rfl q_37 q_38
                refine ⟨b_18, 0, hb_17, q_37, q_38, ?_⟩
                replace T := T r_7 hx_17
                refine ⟨_, _, _, Y.cellR 10 rfl hb_17 hr_2 hx_17, ?_⟩
                refine cnd_imp T (fun T => ?_) (fun T => ?_)
                · obtain ⟨Jv_3, T0, T1⟩ := T
                  obtain ⟨B_9, hB_9, _⟩ := Y.cut [] [1, 2, 3, 4, 5, 6, 7, 8, 9, 10] rfl
                  obtain ⟨F_8, hF_8⟩ := Y.fnS (k := 0) rfl
                  intro K2
                  have hK2 : ∀  (hv97 : Heap), (∃ (c3_5_2_2_2 : List Int), Sy h [] hv97 ([F_8 c3_5_2_2_2] ++ B_9) ∧ Jv_3 c3_5_2_2_2) → K2 hv97 := by
                    subst hB_9 hF_8
                    clear T0 Y
                    rintro hv97 ⟨c3_5_2_2_2, Y, T⟩
                    replace T := T1 c3_5_2_2_2 T
                    have Y : Sy _ _ _ [_, _, _, _, _, _, _, _, _, _, _] := Y
                    unfold K2
                    exact loopBack hm_4 ⟨_, _, rfl, Y.pick [0, 1, 2, 3, 4, 5, 6, 7, 8, 9, 10] rfl, T.1, rfl⟩ T.2
                  subst hB_9 hF_8
                  replace T := T0
                  clear T0 T1
                  refine ⟨b_18, 0, hb_17, q_37, q_38, ?_⟩
                  refine ⟨_, _, _, Y.cellR 10 rfl hb_17 hr_2 hx_17, ?_⟩
                  obtain ⟨q_39, q_40, T⟩ := T
                  obtain ⟨b_19, hb_18, ho_18, x_12, hx_18⟩ := Y.atRow 10 rfl hr_2 hx_17 q_39 q_40
                  refine ⟨b_19, 0, hb_18, q_39, q_40, ?_⟩
                  replace T := T x_12 hx_18
                  refine ⟨_, Y.cellRow 10 rfl hr_2 hx_17 hb_18 (t := 0) hx_18 rfl, ?_⟩
                  refine callX_sy (T _ _ _ _ (Y.pick [7] rfl).hp) (fun _ _ ⟨_, p, _⟩ => p.fr) (allc (fun h => by cases h) (allc (fun h => by cases h) (allc (fun h => by cases h) alln))) ?_
                  rintro v43 hv89 ⟨r3, PP, rfl, T⟩
                  have Y : Sy _ _ hv89 [_, _, _, _, _, _, _, _, _, _, _] := Y.gr PP.fr
                  clear PP
                  refine ⟨r3, rfl, ?_⟩
                  obtain ⟨q_41, q_42, T⟩ := T
                  obtain ⟨b_20, hb_19, ho_19, c_11, hx_19⟩ := Y.atS 3 rfl q_41 q_42
                  refine ⟨b_20, 0, hb_19, q_41, q_42, ?_⟩
                  replace T := T c_11 hx_19
                  refine ⟨_, Y.cellS 3 rfl hb_19 (t := 0) hx_19 rfl, ?_⟩
                  refine cnd_imp T (fun T => ?_) (fun T => ?_)
                  · obtain ⟨q_54, T⟩ := T
                    refine ⟨q_54, ?_⟩
                    refine ⟨b_20, 0, hb_19, q_41, q_42, ?_⟩
                    refine ⟨_, Y.cellS 3 rfl hb_19 (t := 0) hx_19 rfl, ?_⟩
                    obtain ⟨q_53, T⟩ := T
                    refine ⟨q_53, ?_⟩
                    obtain ⟨Jv4, T0, T1⟩ := T
                    obtain ⟨B_10, hB_10, _⟩ := Y.cut [] [1, 2, 3, 4, 5, 6, 7, 8, 9, 10] rfl
                    obtain ⟨F_9, hF_9⟩ := Y.fnS (k := 0) rfl
                    refine ⟨fun lz h' => ∃ (c3_5_2_2_3 : List Int), lz = [] ∧ Sy h [] h' ([F_9 c3_5_2_2_3] ++ B_10) ∧ Jv4 c3_5_2_2_3, ?_, ?_⟩
                    · subst hB_10 hF_9
                      replace T := T0
                      clear T0 T1
                      refine cnd_imp T (fun T => ?_) (fun T => ?_)
                      · exact ⟨_, rfl, Y.pick [0, 1, 2, 3, 4, 5, 6, 7, 8, 9, 10] rfl, T⟩
                      · obtain ⟨q_43, q_44, T⟩ := T
                        obtain ⟨b_21, hb_20, ho_20, c_12, hx_20⟩ := Y.atS 3 rfl q_43 q_44
                        refine ⟨b_21, 0, hb_20, q_43, q_44, ?_⟩
                        replace T := T c_12 hx_20
                        refine ⟨_, Y.cellS 3 rfl hb_20 (t := 0) hx_20 rfl, ?_⟩
                        obtain ⟨Jv5, T0, T1⟩ := T
                        obtain ⟨B_11, hB_11, _⟩ := Y.cut [] [1, 2, 3, 4, 5, 6, 7, 8, 9, 10] rfl
                        obtain ⟨F_10, hF_10⟩ := Y.fnS (k := 0) rfl
                        refine ⟨fun lz h' => ∃ (c3_5_2_2_4 : List Int), lz = [] ∧ Sy h [] h' ([F_10 c3_5_2_2_4] ++ B_11) ∧ Jv5 c3_5_2_2_4, ?_, ?_⟩
                        · subst hB_11 hF_10
                          replace T := T0
                          clear T0 T1
                          refine cnd_imp T (fun T => ?_) (fun T => ?_)
                          · have Y0 := Y
                            have F : Fr [] hv89 hv89 := Fr.refl _ _
                            obtain ⟨q_45, q_46, T⟩ := T
                            obtain ⟨b_22, hb_21, ho_21, c_13, hx_21⟩ := Y0.atS 0 rfl q_45 q_46
                            refine ⟨b_22, 0, hb_21, q_45, q_46, ?_⟩
                            replace T := T c_13 hx_21
                            refine ⟨_, Y0.cellS 0 rfl hb_21 (t := 0) hx_21 rfl, ?_⟩
                            obtain ⟨q_47, q_48, T⟩ := T
                            obtain ⟨b_23, hb_22, ho_22, c_14, hx_22⟩ := Y0.atS 0 rfl q_47 q_48
                            refine ⟨b_23, 0, hb_22, q_47, q_48, ?_⟩
                            replace T := T c_14 hx_22
                            refine ⟨_, Y0.cellS 0 rfl hb_22 (t := 0) hx_22 rfl, ?_⟩
                            refine ⟨b_22, 0, hb_21, q_45, q_46, ?_⟩
                            refine ⟨(Y.neJ 0 8 rfl rfl rfl ho_21), (Y.neJ 0 9 rfl rfl rfl ho_21), (Y.neJ 0 6 rfl rfl rfl ho_21), Y.cellEx 0 rfl hb_21 (t := 0) (by omega) (by decide), Y.freeS 0 rfl hb_21 _, ?_⟩
                            intro hv90
                            have Y : Sy _ _ hv90 [_, _, _, _, _, _, _, _, _, _, _] := Y.st1 0 rfl hb_21 (if c_14 < c_13 then c_14 else c_13) (by omega) rfl
                            clear_value hv90
                            exact ⟨_, rfl, Y.pick [0, 1, 2, 3, 4, 5, 6, 7, 8, 9, 10] rfl, T⟩
                          · have Y0 := Y
                            have F : Fr [] hv89 hv89 := Fr.refl _ _
                            obtain ⟨q_49, q_50, T⟩ := T
                            obtain ⟨b_24, hb_23, ho_23, c_15, hx_23⟩ := Y0.atS 0 rfl q_49 q_50
                            refine ⟨b_24, 0, hb_23, q_49, q_50, ?_⟩
                            replace T := T c_15 hx_23
                            refine ⟨_, Y0.cellS 0 rfl hb_23 (t := 0) hx_23 rfl, ?_⟩
                            obtain ⟨q_51, q_52, T⟩ := T
                            obtain ⟨b_25, hb_24, ho_24, r_9, hx_24⟩ := Y0.atS 1 rfl q_51 q_52
                            refine ⟨b_25, 0, hb_24, q_51, q_52, ?_⟩
                            replace T := T r_9 hx_24
                            refine ⟨_, Y0.cellS 1 rfl hb_24 (t := 0) hx_24 rfl, ?_⟩
                            refine ⟨b_24, 0, hb_23, q_49, q_50, ?_⟩
                            refine ⟨(Y.neJ 0 8 rfl rfl rfl ho_23), (Y.neJ 0 9 rfl rfl rfl ho_23), (Y.neJ 0 6 rfl rfl rfl ho_23), Y.cellEx 0 rfl hb_23 (t := 0) (by omega) (by decide), Y.freeS 0 rfl hb_23 _, ?_⟩
                            intro hv91
                            have Y : Sy _ _ hv91 [_, _, _, _, _, _, _, _, _, _, _] := Y.st1 0 rfl hb_23 (if r_9 < c_15 then r_9 else c_15) (by omega) rfl
                            clear_value hv91
                            exact ⟨_, rfl, Y.pick [0, 1, 2, 3, 4, 5, 6, 7, 8, 9, 10] rfl, T⟩
                        · subst hB_11 hF_10
                          clear T0 Y
                          rintro hv92 ⟨c3_5_2_2_4, e, Y, T⟩
                          cases e
                          replace T := T1 c3_5_2_2_4 T
                          have Y : Sy _ _ _ [_, _, _, _, _, _, _, _, _, _, _] := Y
                          exact ⟨_, rfl, Y.pick [0, 1, 2, 3, 4, 5, 6, 7, 8, 9, 10] rfl, T⟩
                    · subst hB_10 hF_9
                      clear T0 Y
                      rintro hv93 ⟨c3_5_2_2_3, e, Y, T⟩
                      cases e
                      replace T := T1 c3_5_2_2_3 T
                      have Y : Sy _ _ _ [_, _, _, _, _, _, _, _, _, _, _] := Y
                      exact hK2 _ ⟨_, Y.pick [0, 1, 2, 3, 4, 5, 6, 7, 8, 9, 10] rfl, T⟩
                  · obtain ⟨q_55, q_56, T⟩ := T
                    obtain ⟨b_26, hb_25, ho_25, c_16, hx_25⟩ := Y.atS 3 rfl q_55 q_56
                    refine ⟨b_26, 0, hb_25, q_55, q_56, ?_⟩
                    replace T := T c_16 hx_25
                    refine ⟨_, Y.cellS 3 rfl hb_25 (t := 0) hx_25 rfl, ?_⟩
                    obtain ⟨Jv6, T0, T1⟩ := T
                    obtain ⟨B_12, hB_12, _⟩ := Y.cut [] [1, 2, 3, 4, 5, 6, 7, 8, 9, 10] rfl
                    obtain ⟨F_11, hF_11⟩ := Y.fnS (k := 0) rfl
                    refine ⟨fun lz h' => ∃ (c3_5_2_2_5 : List Int), lz = [] ∧ Sy h [] h' ([F_11 c3_5_2_2_5] ++ B_12) ∧ Jv6 c3_5_2_2_5, ?_, ?_⟩
                    · subst hB_12 hF_11
                      replace T := T0
                      clear T0 T1
                      refine cnd_imp T (fun T => ?_) (fun T => ?_)
                      · have Y0 := Y
                        have F : Fr [] hv89 hv89 := Fr.refl _ _
                        obtain ⟨q_57, q_58, T⟩ := T
                        obtain ⟨b_27, hb_26, ho_26, c_17, hx_26⟩ := Y0.atS 0 rfl q_57 q_58
                        refine ⟨b_27, 0, hb_26, q_57, q_58, ?_⟩
                        replace T := T c_17 hx_26
                        refine ⟨_, Y0.cellS 0 rfl hb_26 (t := 0) hx_26 rfl, ?_⟩
                        obtain ⟨q_59, q_60, T⟩ := T
                        obtain ⟨b_28, hb_27, ho_27, c_18, hx_27⟩ := Y0.atS 0 rfl q_59 q_60
                        refine ⟨b_28, 0, hb_27, q_59, q_60, ?_⟩
                        replace T := T c_18 hx_27
                        refine ⟨_, Y0.cellS 0 rfl hb_27 (t := 0) hx_27 rfl, ?_⟩
                        refine ⟨b_27, 0, hb_26, q_57, q_58, ?_⟩
                        refine ⟨(Y.neJ 0 8 rfl rfl rfl ho_26), (Y.neJ 0 9 rfl rfl rfl ho_26), (Y.neJ 0 6 rfl rfl rfl ho_26), Y.cellEx 0 rfl hb_26 (t := 0) (by omega) (by decide), Y.freeS 0 rfl hb_26 _, ?_⟩
                        intro hv94
                        have Y : Sy _ _ hv94 [_, _, _, _, _, _, _, _, _, _, _] := Y.st1 0 rfl hb_26 (if c_18 < c_17 then c_18 else c_17) (by omega) rfl
                        clear_value hv94
                        exact ⟨_, rfl, Y.pick [0, 1, 2, 3, 4, 5, 6, 7, 8, 9, 10] rfl, T⟩
                      · have Y0 := Y
                        have F : Fr [] hv89 hv89 := Fr.refl _ _
                        obtain ⟨q_61, q_62, T⟩ := T
                        obtain ⟨b_29, hb_28, ho_28, c_19, hx_28⟩ := Y0.atS 0 rfl q_61 q_62
                        refine ⟨b_29, 0, hb_28, q_61, q_62, ?_⟩
                        replace T := T c_19 hx_28
                        refine ⟨_, Y0.cellS 0 rfl hb_28 (t := 0) hx_28 rfl, ?_⟩
                        obtain ⟨q_63, q_64, T⟩ := T
                        obtain ⟨b_30, hb_29, ho_29, r_10, hx_29⟩ := Y0.atS 1 rfl q_63 q_64
                        refine ⟨b_30, 0, hb_29, q_63, q_64, ?_⟩
                        replace T := T r_10 hx_29
                        refine ⟨_, Y0.cellS 1 rfl hb_29 (t := 0) hx_29 rfl, ?_⟩
                        refine ⟨b_29, 0, hb_28, q_61, q_62, ?_⟩
                        refine ⟨(Y.neJ 0 8 rfl rfl rfl ho_28), (Y.neJ 0 9 rfl rfl rfl ho_28), (Y.neJ 0 6 rfl rfl rfl ho_28), Y.cellEx 0 rfl hb_28 (t := 0) (by omega) (by decide), Y.freeS 0 rfl hb_28 _, ?_⟩
                        intro hv95
                        have Y : Sy _ _ hv95 [_, _, _, _, _, _, _, _, _, _, _] := Y.st1 0 rfl hb_28 (if r_10 < c_19 then r_10 else c_19) (by omega) rfl
                        clear_value hv95
                        exact ⟨_, rfl, Y.pick [0, 1, 2, 3, 4, 5, 6, 7, 8, 9, 10] rfl, T⟩
                    · subst hB_12 hF_11
                      clear T0 Y
                      rintro hv96 ⟨c3_5_2_2_5, e, Y, T⟩
                      cases e
                      replace T := T1 c3_5_2_2_5 T
                      have Y : Sy _ _ _ [_, _, _, _, _, _, _, _, _, _, _] := Y
                      exact hK2 _ ⟨_, Y.pick [0, 1, 2, 3, 4, 5, 6, 7, 8, 9, 10] rfl, T⟩
                · exact loopBack hm_3 ⟨_, _, rfl, Y.pick [0, 1, 2, 3, 4, 5, 6, 7, 8, 9, 10] rfl, T.1, rfl⟩ T.2
            · intro hv98
              have Y : Sy _ _ hv98 [_, _, _, _, _, _, _, _, _, _, _] := ((((Y.stJ 9 rfl _ _).stJ 9 rfl _ _).stJ 9 rfl _ _).stJ 9 rfl _ _)
              clear_value hv98
              exact ⟨_, _, _, _, _, _, _, _, _, _, _, _, _, _, _, _, Y.pick [2, 3, 4, 0] rfl, rfl, T⟩
  subst hB
  replace T := T0
  clear T0 T1
  have Y0 := Y
  have F : Fr [] hv2 hv2 := Fr.refl _ _
  refine ⟨?_, ?_, ?_⟩
  · intro hv3
    have Y : Sy _ _ hv3 [_, _, _, _] := Y.litS (E := eI) (ty := 3) ([s] : List Int) rfl (by simp [maxLen])
    have F : Fr _ _ hv3 := F.pushr _
    have fshv3 := F.size
    clear_value hv3
    refine ⟨F, ?_⟩
    refine ⟨?_, ?_⟩
    · refine callX_sy (T _ (Hp.nil _)) (fun _ _ ⟨_, _, _, _, p, _⟩ => p.fr) (allc (fun h => by cases h) (allc (fun h => by cases h) alln)) ?_
      rintro v hv4 ⟨rA, rL, rC, r_11, PP, rfl, T⟩
      have F : Fr _ _ hv4 := F.trans PP.fr.nil
      have fshv4 := F.size
      have Y : Sy _ _ hv4 [_, _, _, _, _] := Y.callV PP ⟨rfl, trivial⟩
      clear PP
      obtain rfl := Y.lenS 4 rfl
      refine ⟨_, _, _, rfl, ?_⟩
      refine ⟨F, ?_⟩
      refine ⟨?_, ?_⟩
      · refine callX_sy (T _ (Hp.nil _)) (fun _ _ ⟨_, _, _, _, p, _⟩ => p.fr) (allc (fun h => by cases h) (allc (fun h => by cases h) alln)) ?_
        rintro v2 hv5 ⟨rA2, rL2, rC2, r_12, PP, rfl, T⟩
        have F : Fr _ _ hv5 := F.trans PP.fr.nil
        have fshv5 := F.size
        have Y : Sy _ _ hv5 [_, _, _, _, _, _] := Y.callV PP ⟨rfl, trivial⟩
        clear PP
        obtain rfl := Y.lenS 5 rfl
        refine ⟨_, _, _, rfl, ?_⟩
        refine ⟨F, ?_⟩
        refine ⟨?_, ?_⟩
        · refine callX_sy (T _ (Hp.nil _)) (fun _ _ ⟨_, _, _, _, p, _⟩ => p.fr) (allc (fun h => by cases h) (allc (fun h => by cases h) alln)) ?_
          rintro v3 hv6 ⟨rA3, rL3, rC3, r_13, PP, rfl, T⟩
          have F : Fr _ _ hv6 := F.trans PP.fr.nil
          have fshv6 := F.size
          have Y : Sy _ _ hv6 [_, _, _, _, _, _, _] := Y.callV PP ⟨rfl, trivial⟩
          clear PP
          obtain rfl := Y.lenS 6 rfl
          refine ⟨_, _, _, rfl, ?_⟩
          refine ⟨F, ?_⟩
          intro hv7
          have Y : Sy _ _ hv7 [_, _, _, _, _, _, _, _] := Y.junk _
          have F : Fr _ _ hv7 := F.pushr _
          have fshv7 := F.size
          clear_value hv7
          refine ⟨F, ?_⟩
          exact hK _ _ _ _ _ _ _ _ _ _ _ _ _ _ ⟨_, _, _, _, Y.pick [3, 4, 5, 6, 7, 0, 1, 2] rfl, T⟩
        · intro hv8
          have Y : Sy _ _ hv8 [_, _, _, _, _, _, _] := Y.junk _
          have F : Fr _ _ hv8 := F.pushr _
          have fshv8 := F.size
          clear_value hv8
          refine ⟨F, ?_⟩
          refine callX_sy (T _ (Hp.nil _)) (fun _ _ ⟨_, _, _, _, p, _⟩ => p.fr) (allc (fun h => by cases h) (allc (fun h => by cases h) (allc (fun h => by cases h) alln))) ?_
          rintro v4 hv9 ⟨rA4, rL4, rC4, r_14, PP, rfl, T⟩
          have F : Fr _ _ hv9 := F.trans PP.fr.nil
          have fshv9 := F.size
          have Y : Sy _ _ hv9 [_, _, _, _, _, _, _, _] := Y.callV PP ⟨rfl, trivial⟩
          clear PP
          obtain rfl := Y.lenS 7 rfl
          refine ⟨_, _, _, rfl, ?_⟩
          refine ⟨F, ?_⟩
          exact hK _ _ _ _ _ _ _ _ _ _ _ _ _ _ ⟨_, _, _, _, Y.pick [3, 4, 5, 7, 6, 0, 1, 2] rfl, T⟩
      · intro hv10
        have Y : Sy _ _ hv10 [_, _, _, _, _, _] := Y.junk _
        have F : Fr _ _ hv10 := F.pushr _
        have fshv10 := F.size
        clear_value hv10
        refine ⟨F, ?_⟩
        refine callX_sy (T _ (Hp.nil _)) (fun _ _ ⟨_, _, _, _, p, _⟩ => p.fr) (allc (fun h => by cases h) (allc (fun h => by cases h) (allc (fun h => by cases h) alln))) ?_
        rintro v5 hv11 ⟨rA5, rL5, rC5, r_15, PP, rfl, T⟩
        have F : Fr _ _ hv11 := F.trans PP.fr.nil
        have fshv11 := F.size
        have Y : Sy _ _ hv11 [_, _, _, _, _, _, _] := Y.callV PP ⟨rfl, trivial⟩
        clear PP
        obtain rfl := Y.lenS 6 rfl
        refine ⟨_, _, _, rfl, ?_⟩
        refine ⟨F, ?_⟩
        refine callX_sy (T _ (Hp.nil _)) (fun _ _ ⟨_, _, _, _, p, _⟩ => p.fr) (allc (fun h => by cases h) (allc (fun h => by cases h) (allc (fun h => by cases h) alln))) ?_
        rintro v6 hv12 ⟨rA6, rL6, rC6, r_16, PP, rfl, T⟩
        have F : Fr _ _ hv12 := F.trans PP.fr.nil
        have fshv12 := F.size
        have Y : Sy _ _ hv12 [_, _, _, _, _, _, _, _] := Y.callV PP ⟨rfl, trivial⟩
        clear PP
        obtain rfl := Y.lenS 7 rfl
        refine ⟨_, _, _, rfl, ?_⟩
        refine ⟨F, ?_⟩
        exact hK _ _ _ _ _ _ _ _ _ _ _ _ _ _ ⟨_, _, _, _, Y.pick [3, 4, 6, 7, 5, 0, 1, 2] rfl, T⟩
    · intro hv13
      have Y : Sy _ _ hv13 [_, _, _, _, _] := Y.junk _
      have F : Fr _ _ hv13 := F.pushr _
      have fshv13 := F.size
      clear_value hv13
      refine ⟨F, ?_⟩
      refine callX_sy (T _ (Hp.nil _)) (fun _ _ ⟨_, _, _, _, p, _⟩ => p.fr) (allc (fun h => by cases h) (allc (fun h => by cases h) (allc (fun h => by cases h) alln))) ?_
      rintro v7 hv14 ⟨rA7, rL7, rC7, r_17, PP, rfl, T⟩
      have F : Fr _ _ hv14 := F.trans PP.fr.nil
      have fshv14 := F.size
      have Y : Sy _ _ hv14 [_, _, _, _, _, _] := Y.callV PP ⟨rfl, trivial⟩
      clear PP
      obtain rfl := Y.lenS 5 rfl
      refine ⟨_, _, _, rfl, ?_⟩
      refine ⟨F, ?_⟩
      refine callX_sy (T _ (Hp.nil _)) (fun _ _ ⟨_, _, _, _, p, _⟩ => p.fr) (allc (fun h => by cases h) (allc (fun h => by cases h) (allc (fun h => by cases h) alln))) ?_
      rintro v8 hv15 ⟨rA8, rL8, rC8, r_18, PP, rfl, T⟩
      have F : Fr _ _ hv15 := F.trans PP.fr.nil
      have fshv15 := F.size
      have Y : Sy _ _ hv15 [_, _, _, _, _, _, _] := Y.callV PP ⟨rfl, trivial⟩
      clear PP
      obtain rfl := Y.lenS 6 rfl
      refine ⟨_, _, _, rfl, ?_⟩
      refine ⟨F, ?_⟩
      refine callX_sy (T _ (Hp.nil _)) (fun _ _ ⟨_, _, _, _, p, _⟩ => p.fr) (allc (fun h => by cases h) (allc (fun h => by cases h) (allc (fun h => by cases h) alln))) ?_
      rintro v9 hv16 ⟨rA9, rL9, rC9, r_19, PP, rfl, T⟩
      have F : Fr _ _ hv16 := F.trans PP.fr.nil
      have fshv16 := F.size
      have Y : Sy _ _ hv16 [_, _, _, _, _, _, _, _] := Y.callV PP ⟨rfl, trivial⟩
      clear PP
      obtain rfl := Y.lenS 7 rfl
      refine ⟨_, _, _, rfl, ?_⟩
      refine ⟨F, ?_⟩
      exact hK _ _ _ _ _ _ _ _ _ _ _ _ _ _ ⟨_, _, _, _, Y.pick [3, 5, 6, 7, 4, 0, 1, 2] rfl, T⟩
  · refine callX_sy (T _ (Hp.nil _)) (fun _ _ ⟨_, _, _, _, p, _⟩ => p.fr) (allc (fun h => by cases h) (allc (fun h => by cases h) alln)) ?_
    rintro v10 hv17 ⟨rA10, rL10, rC10, r_20, PP, rfl, T⟩
    have F : Fr _ _ hv17 := F.trans PP.fr.nil
    have fshv17 := F.size
    have Y : Sy _ _ hv17 [_, _, _, _] := Y.callV PP ⟨rfl, trivial⟩
    clear PP
    obtain rfl := Y.lenS 3 rfl
    refine ⟨_, _, _, rfl, ?_⟩
    refine ⟨F, ?_⟩
    refine ⟨?_, ?_, ?_⟩
    · intro hv18
      have Y : Sy _ _ hv18 [_, _, _, _, _] := Y.litS (E := eI) (ty := 3) ([s] : List Int) rfl (by simp [maxLen])
      have F : Fr _ _ hv18 := F.pushr _
      have fshv18 := F.size
      clear_value hv18
      refine ⟨F, ?_⟩
      refine ⟨?_, ?_⟩
      · refine callX_sy (T _ (Hp.nil _)) (fun _ _ ⟨_, _, _, _, p, _⟩ => p.fr) (allc (fun h => by cases h) (allc (fun h => by cases h) alln)) ?_
        rintro v11 hv19 ⟨rA11, rL11, rC11, r_21, PP, rfl, T⟩
        have F : Fr _ _ hv19 := F.trans PP.fr.nil
        have fshv19 := F.size
        have Y : Sy _ _ hv19 [_, _, _, _, _, _] := Y.callV PP ⟨rfl, trivial⟩
        clear PP
        obtain rfl := Y.lenS 5 rfl
        refine ⟨_, _, _, rfl, ?_⟩
        refine ⟨F, ?_⟩
        refine ⟨?_, ?_⟩
        · refine callX_sy (T _ (Hp.nil _)) (fun _ _ ⟨_, _, _, _, p, _⟩ => p.fr) (allc (fun h => by cases h) (allc (fun h => by cases h) alln)) ?_
          rintro v12 hv20 ⟨rA12, rL12, rC12, r_22, PP, rfl, T⟩
          have F : Fr _ _ hv20 := F.trans PP.fr.nil
          have fshv20 := F.size
          have Y : Sy _ _ hv20 [_, _, _, _, _, _, _] := Y.callV PP ⟨rfl, trivial⟩
          clear PP
          obtain rfl := Y.lenS 6 rfl
          refine ⟨_, _, _, rfl, ?_⟩
          refine ⟨F, ?_⟩
          intro hv21
          have Y : Sy _ _ hv21 [_, _, _, _, _, _, _, _] := Y.junk _
          have F : Fr _ _ hv21 := F.pushr _
          have fshv21 := F.size
          clear_value hv21
          refine ⟨F, ?_⟩
          exact hK _ _ _ _ _ _ _ _ _ _ _ _ _ _ ⟨_, _, _, _, Y.pick [4, 3, 5, 6, 7, 0, 1, 2] rfl, T⟩
        · intro hv22
          have Y : Sy _ _ hv22 [_, _, _, _, _, _, _] := Y.junk _
          have F : Fr _ _ hv22 := F.pushr _
          have fshv22 := F.size
          clear_value hv22
          refine ⟨F, ?_⟩
          refine callX_sy (T _ (Hp.nil _)) (fun _ _ ⟨_, _, _, _, p, _⟩ => p.fr) (allc (fun h => by cases h) (allc (fun h => by cases h) (allc (fun h => by cases h) alln))) ?_
          rintro v13 hv23 ⟨rA13, rL13, rC13, r_23, PP, rfl, T⟩
          have F : Fr _ _ hv23 := F.trans PP.fr.nil
          have fshv23 := F.size
          have Y : Sy _ _ hv23 [_, _, _, _, _, _, _, _] := Y.callV PP ⟨rfl, trivial⟩
          clear PP
          obtain rfl := Y.lenS 7 rfl
          refine ⟨_, _, _, rfl, ?_⟩
          refine ⟨F, ?_⟩
          exact hK _ _ _ _ _ _ _ _ _ _ _ _ _ _ ⟨_, _, _, _, Y.pick [4, 3, 5, 7, 6, 0, 1, 2] rfl, T⟩
      · intro hv24
        have Y : Sy _ _ hv24 [_, _, _, _, _, _] := Y.junk _
        have F : Fr _ _ hv24 := F.pushr _
        have fshv24 := F.size
        clear_value hv24
        refine ⟨F, ?_⟩
        refine callX_sy (T _ (Hp.nil _)) (fun _ _ ⟨_, _, _, _, p, _⟩ => p.fr) (allc (fun h => by cases h) (allc (fun h => by cases h) (allc (fun h => by cases h) alln))) ?_
        rintro v14 hv25 ⟨rA14, rL14, rC14, r_24, PP, rfl, T⟩
        have F : Fr _ _ hv25 := F.trans PP.fr.nil
        have fshv25 := F.size
        have Y : Sy _ _ hv25 [_, _, _, _, _, _, _] := Y.callV PP ⟨rfl, trivial⟩
        clear PP
        obtain rfl := Y.lenS 6 rfl
        refine ⟨_, _, _, rfl, ?_⟩
        refine ⟨F, ?_⟩
        refine callX_sy (T _ (Hp.nil _)) (fun _ _ ⟨_, _, _, _, p, _⟩ => p.fr) (allc (fun h => by cases h) (allc (fun h => by cases h) (allc (fun h => by cases h) alln))) ?_
        rintro v15 hv26 ⟨rA15, rL15, rC15, r_25, PP, rfl, T⟩
        have F : Fr _ _ hv26 := F.trans PP.fr.nil
        have fshv26 := F.size
        have Y : Sy _ _ hv26 [_, _, _, _, _, _, _, _] := Y.callV PP ⟨rfl, trivial⟩
        clear PP
        obtain rfl := Y.lenS 7 rfl
        refine ⟨_, _, _, rfl, ?_⟩
        refine ⟨F, ?_⟩
        exact hK _ _ _ _ _ _ _ _ _ _ _ _ _ _ ⟨_, _, _, _, Y.pick [4, 3, 6, 7, 5, 0, 1, 2] rfl, T⟩
    · refine callX_sy (T _ (Hp.nil _)) (fun _ _ ⟨_, _, _, _, p, _⟩ => p.fr) (allc (fun h => by cases h) (allc (fun h => by cases h) alln)) ?_
      rintro v16 hv27 ⟨rA16, rL16, rC16, r_26, PP, rfl, T⟩
      have F : Fr _ _ hv27 := F.trans PP.fr.nil
      have fshv27 := F.size
      have Y : Sy _ _ hv27 [_, _, _, _, _] := Y.callV PP ⟨rfl, trivial⟩
      clear PP
      obtain rfl := Y.lenS 4 rfl
      refine ⟨_, _, _, rfl, ?_⟩
      refine ⟨F, ?_⟩
      refine ⟨?_, ?_, ?_⟩
      · intro hv28
        have Y : Sy _ _ hv28 [_, _, _, _, _, _] := Y.litS (E := eI) (ty := 3) ([s] : List Int) rfl (by simp [maxLen])
        have F : Fr _ _ hv28 := F.pushr _
        have fshv28 := F.size
        clear_value hv28
        refine ⟨F, ?_⟩
        refine ⟨?_, ?_⟩
        · refine callX_sy (T _ (Hp.nil _)) (fun _ _ ⟨_, _, _, _, p, _⟩ => p.fr) (allc (fun h => by cases h) (allc (fun h => by cases h) alln)) ?_
          rintro v17 hv29 ⟨rA17, rL17, rC17, r_27, PP, rfl, T⟩
          have F : Fr _ _ hv29 := F.trans PP.fr.nil
          have fshv29 := F.size
          have Y : Sy _ _ hv29 [_, _, _, _, _, _, _] := Y.callV PP ⟨rfl, trivial⟩
          clear PP
          obtain rfl := Y.lenS 6 rfl
          refine ⟨_, _, _, rfl, ?_⟩
          refine ⟨F, ?_⟩
          intro hv30
          have Y : Sy _ _ hv30 [_, _, _, _, _, _, _, _] := Y.junk _
          have F : Fr _ _ hv30 := F.pushr _
          have fshv30 := F.size
          clear_value hv30
          refine ⟨F, ?_⟩
          exact hK _ _ _ _ _ _ _ _ _ _ _ _ _ _ ⟨_, _, _, _, Y.pick [5, 3, 4, 6, 7, 0, 1, 2] rfl, T⟩
        · intro hv31
          have Y : Sy _ _ hv31 [_, _, _, _, _, _, _] := Y.junk _
          have F : Fr _ _ hv31 := F.pushr _
          have fshv31 := F.size
          clear_value hv31
          refine ⟨F, ?_⟩
          refine callX_sy (T _ (Hp.nil _)) (fun _ _ ⟨_, _, _, _, p, _⟩ => p.fr) (allc (fun h => by cases h) (allc (fun h => by cases h) (allc (fun h => by cases h) alln))) ?_
          rintro v18 hv32 ⟨rA18, rL18, rC18, r_28, PP, rfl, T⟩
          have F : Fr _ _ hv32 := F.trans PP.fr.nil
          have fshv32 := F.size
          have Y : Sy _ _ hv32 [_, _, _, _, _, _, _, _] := Y.callV PP ⟨rfl, trivial⟩
          clear PP
          obtain rfl := Y.lenS 7 rfl
          refine ⟨_, _, _, rfl, ?_⟩
          refine ⟨F, ?_⟩
          exact hK _ _ _ _ _ _ _ _ _ _ _ _ _ _ ⟨_, _, _, _, Y.pick [5, 3, 4, 7, 6, 0, 1, 2] rfl, T⟩
      · refine callX_sy (T _ (Hp.nil _)) (fun _ _ ⟨_, _, _, _, p, _⟩ => p.fr) (allc (fun h => by cases h) (allc (fun h => by cases h) alln)) ?_
        rintro v19 hv33 ⟨rA19, rL19, rC19, r_29, PP, rfl, T⟩
        have F : Fr _ _ hv33 := F.trans PP.fr.nil
        have fshv33 := F.size
        have Y : Sy _ _ hv33 [_, _, _, _, _, _] := Y.callV PP ⟨rfl, trivial⟩
        clear PP
        obtain rfl := Y.lenS 5 rfl
        refine ⟨_, _, _, rfl, ?_⟩
        refine ⟨F, ?_⟩
        refine ⟨?_, ?_⟩
        · intro hv34
          have Y : Sy _ _ hv34 [_, _, _, _, _, _, _] := Y.litS (E := eI) (ty := 3) ([s] : List Int) rfl (by simp [maxLen])
          have F : Fr _ _ hv34 := F.pushr _
          have fshv34 := F.size
          clear_value hv34
          refine ⟨F, ?_⟩
          intro hv35
          have Y : Sy _ _ hv35 [_, _, _, _, _, _, _, _] := Y.junk _
          have F : Fr _ _ hv35 := F.pushr _
          have fshv35 := F.size
          clear_value hv35
          refine ⟨F, ?_⟩
          exact hK _ _ _ _ _ _ _ _ _ _ _ _ _ _ ⟨_, _, _, _, Y.pick [6, 3, 4, 5, 7, 0, 1, 2] rfl, T⟩
        · intro hv36
          have Y : Sy _ _ hv36 [_, _, _, _, _, _, _] := Y.junk _
          have F : Fr _ _ hv36 := F.pushr _
          have fshv36 := F.size
          clear_value hv36
          refine ⟨F, ?_⟩
          intro hv37
          have Y : Sy _ _ hv37 [_, _, _, _, _, _, _, _] := Y.litS (E := eI) (ty := 3) ([s] : List Int) rfl (by simp [maxLen])
          have F : Fr _ _ hv37 := F.pushr _
          have fshv37 := F.size
          clear_value hv37
          refine ⟨F, ?_⟩
          exact hK _ _ _ _ _ _ _ _ _ _ _ _ _ _ ⟨_, _, _, _, Y.pick [7, 3, 4, 5, 6, 0, 1, 2] rfl, T⟩
      · intro hv38
        have Y : Sy _ _ hv38 [_, _, _, _, _, _] := Y.junk _
        have F : Fr _ _ hv38 := F.pushr _
        have fshv38 := F.size
        clear_value hv38
        refine ⟨F, ?_⟩
        refine ⟨?_, ?_⟩
        · intro hv39
          have Y : Sy _ _ hv39 [_, _, _, _, _, _, _] := Y.litS (E := eI) (ty := 3) ([s] : List Int) rfl (by simp [maxLen])
          have F : Fr _ _ hv39 := F.pushr _
          have fshv39 := F.size
          clear_value hv39
          refine ⟨F, ?_⟩
          refine callX_sy (T _ (Hp.nil _)) (fun _ _ ⟨_, _, _, _, p, _⟩ => p.fr) (allc (fun h => by cases h) (allc (fun h => by cases h) (allc (fun h => by cases h) alln))) ?_
          rintro v20 hv40 ⟨rA20, rL20, rC20, r_30, PP, rfl, T⟩
          have F : Fr _ _ hv40 := F.trans PP.fr.nil
          have fshv40 := F.size
          have Y : Sy _ _ hv40 [_, _, _, _, _, _, _, _] := Y.callV PP ⟨rfl, trivial⟩
          clear PP
          obtain rfl := Y.lenS 7 rfl
          refine ⟨_, _, _, rfl, ?_⟩
          refine ⟨F, ?_⟩
          exact hK _ _ _ _ _ _ _ _ _ _ _ _ _ _ ⟨_, _, _, _, Y.pick [6, 3, 4, 7, 5, 0, 1, 2] rfl, T⟩
        · refine callX_sy (T _ (Hp.nil _)) (fun _ _ ⟨_, _, _, _, p, _⟩ => p.fr) (allc (fun h => by cases h) (allc (fun h => by cases h) (allc (fun h => by cases h) alln))) ?_
          rintro v21 hv41 ⟨rA21, rL21, rC21, r_31, PP, rfl, T⟩
          have F : Fr _ _ hv41 := F.trans PP.fr.nil
          have fshv41 := F.size
          have Y : Sy _ _ hv41 [_, _, _, _, _, _, _] := Y.callV PP ⟨rfl, trivial⟩
          clear PP
          obtain rfl := Y.lenS 6 rfl
          refine ⟨_, _, _, rfl, ?_⟩
          refine ⟨F, ?_⟩
          intro hv42
          have Y : Sy _ _ hv42 [_, _, _, _, _, _, _, _] := Y.litS (E := eI) (ty := 3) ([s] : List Int) rfl (by simp [maxLen])
          have F : Fr _ _ hv42 := F.pushr _
          have fshv42 := F.size
          clear_value hv42
          refine ⟨F, ?_⟩
          exact hK _ _ _ _ _ _ _ _ _ _ _ _ _ _ ⟨_, _, _, _, Y.pick [7, 3, 4, 6, 5, 0, 1, 2] rfl, T⟩
    · intro hv43
      have Y : Sy _ _ hv43 [_, _, _, _, _] := Y.junk _
      have F : Fr _ _ hv43 := F.pushr _
      have fshv43 := F.size
      clear_value hv43
      refine ⟨F, ?_⟩
      refine ⟨?_, ?_⟩
      · intro hv44
        have Y : Sy _ _ hv44 [_, _, _, _, _, _] := Y.litS (E := eI) (ty := 3) ([s] : List Int) rfl (by simp [maxLen])
        have F : Fr _ _ hv44 := F.pushr _
        have fshv44 := F.size
        clear_value hv44
        refine ⟨F, ?_⟩
        refine callX_sy (T _ (Hp.nil _)) (fun _ _ ⟨_, _, _, _, p, _⟩ => p.fr) (allc (fun h => by cases h) (allc (fun h => by cases h) (allc (fun h => by cases h) alln))) ?_
        rintro v22 hv45 ⟨rA22, rL22, rC22, r_32, PP, rfl, T⟩
        have F : Fr _ _ hv45 := F.trans PP.fr.nil
        have fshv45 := F.size
        have Y : Sy _ _ hv45 [_, _, _, _, _, _, _] := Y.callV PP ⟨rfl, trivial⟩
        clear PP
        obtain rfl := Y.lenS 6 rfl
        refine ⟨_, _, _, rfl, ?_⟩
        refine ⟨F, ?_⟩
        refine callX_sy (T _ (Hp.nil _)) (fun _ _ ⟨_, _, _, _, p, _⟩ => p.fr) (allc (fun h => by cases h) (allc (fun h => by cases h) (allc (fun h => by cases h) alln))) ?_
        rintro v23 hv46 ⟨rA23, rL23, rC23, r_33, PP, rfl, T⟩
        have F : Fr _ _ hv46 := F.trans PP.fr.nil
        have fshv46 := F.size
        have Y : Sy _ _ hv46 [_, _, _, _, _, _, _, _] := Y.callV PP ⟨rfl, trivial⟩
        clear PP
        obtain rfl := Y.lenS 7 rfl
        refine ⟨_, _, _, rfl, ?_⟩
        refine ⟨F, ?_⟩
        exact hK _ _ _ _ _ _ _ _ _ _ _ _ _ _ ⟨_, _, _, _, Y.pick [5, 3, 6, 7, 4, 0, 1, 2] rfl, T⟩
      · refine callX_sy (T _ (Hp.nil _)) (fun _ _ ⟨_, _, _, _, p, _⟩ => p.fr) (allc (fun h => by cases h) (allc (fun h => by cases h) (allc (fun h => by cases h) alln))) ?_
        rintro v24 hv47 ⟨rA24, rL24, rC24, r_34, PP, rfl, T⟩
        have F : Fr _ _ hv47 := F.trans PP.fr.nil
        have fshv47 := F.size
        have Y : Sy _ _ hv47 [_, _, _, _, _, _] := Y.callV PP ⟨rfl, trivial⟩
        clear PP
        obtain rfl := Y.lenS 5 rfl
        refine ⟨_, _, _, rfl, ?_⟩
        refine ⟨F, ?_⟩
        refine ⟨?_, ?_⟩
        · intro hv48
          have Y : Sy _ _ hv48 [_, _, _, _, _, _, _] := Y.litS (E := eI) (ty := 3) ([s] : List Int) rfl (by simp [maxLen])
          have F : Fr _ _ hv48 := F.pushr _
          have fshv48 := F.size
          clear_value hv48
          refine ⟨F, ?_⟩
          refine callX_sy (T _ (Hp.nil _)) (fun _ _ ⟨_, _, _, _, p, _⟩ => p.fr) (allc (fun h => by cases h) (allc (fun h => by cases h) (allc (fun h => by cases h) alln))) ?_
          rintro v25 hv49 ⟨rA25, rL25, rC25, r_35, PP, rfl, T⟩
          have F : Fr _ _ hv49 := F.trans PP.fr.nil
          have fshv49 := F.size
          have Y : Sy _ _ hv49 [_, _, _, _, _, _, _, _] := Y.callV PP ⟨rfl, trivial⟩
          clear PP
          obtain rfl := Y.lenS 7 rfl
          refine ⟨_, _, _, rfl, ?_⟩
          refine ⟨F, ?_⟩
          exact hK _ _ _ _ _ _ _ _ _ _ _ _ _ _ ⟨_, _, _, _, Y.pick [6, 3, 5, 7, 4, 0, 1, 2] rfl, T⟩
        · refine callX_sy (T _ (Hp.nil _)) (fun _ _ ⟨_, _, _, _, p, _⟩ => p.fr) (allc (fun h => by cases h) (allc (fun h => by cases h) (allc (fun h => by cases h) alln))) ?_
          rintro v26 hv50 ⟨rA26, rL26, rC26, r_36, PP, rfl, T⟩
          have F : Fr _ _ hv50 := F.trans PP.fr.nil
          have fshv50 := F.size
          have Y : Sy _ _ hv50 [_, _, _, _, _, _, _] := Y.callV PP ⟨rfl, trivial⟩
          clear PP
          obtain rfl := Y.lenS 6 rfl
          refine ⟨_, _, _, rfl, ?_⟩
          refine ⟨F, ?_⟩
          intro hv51
          have Y : Sy _ _ hv51 [_, _, _, _, _, _, _, _] := Y.litS (E := eI) (ty := 3) ([s] : List Int) rfl (by simp [maxLen])
          have F : Fr _ _ hv51 := F.pushr _
          have fshv51 := F.size
          clear_value hv51
          refine ⟨F, ?_⟩
          exact hK _ _ _ _ _ _ _ _ _ _ _ _ _ _ ⟨_, _, _, _, Y.pick [7, 3, 5, 6, 4, 0, 1, 2] rfl, T⟩
  · intro hv52
    have Y : Sy _ _ hv52 [_, _, _, _] := Y.junk _
    have F : Fr _ _ hv52 := F.pushr _
    have fshv52 := F.size
    clear_value hv52
    refine ⟨F, ?_⟩
    refine ⟨?_, ?_⟩
    · intro hv53
      have Y : Sy _ _ hv53 [_, _, _, _, _] := Y.litS (E := eI) (ty := 3) ([s] : List Int) rfl (by simp [maxLen])
      have F : Fr _ _ hv53 := F.pushr _
      have fshv53 := F.size
      clear_value hv53
      refine ⟨F, ?_⟩
      refine callX_sy (T _ (Hp.nil _)) (fun _ _ ⟨_, _, _, _, p, _⟩ => p.fr) (allc (fun h => by cases h) (allc (fun h => by cases h) (allc (fun h => by cases h) alln))) ?_
      rintro v27 hv54 ⟨rA27, rL27, rC27, r_37, PP, rfl, T⟩
      have F : Fr _ _ hv54 := F.trans PP.fr.nil
      have fshv54 := F.size
      have Y : Sy _ _ hv54 [_, _, _, _, _, _] := Y.callV PP ⟨rfl, trivial⟩
      clear PP
      obtain rfl := Y.lenS 5 rfl
      refine ⟨_, _, _, rfl, ?_⟩
      refine ⟨F, ?_⟩
      refine callX_sy (T _ (Hp.nil _)) (fun _ _ ⟨_, _, _, _, p, _⟩ => p.fr) (allc (fun h => by cases h) (allc (fun h => by cases h) (allc (fun h => by cases h) alln))) ?_
      rintro v28 hv55 ⟨rA28, rL28, rC28, r_38, PP, rfl, T⟩
      have F : Fr _ _ hv55 := F.trans PP.fr.nil
      have fshv55 := F.size
      have Y : Sy _ _ hv55 [_, _, _, _, _, _, _] := Y.callV PP ⟨rfl, trivial⟩
      clear PP
      obtain rfl := Y.lenS 6 rfl
      refine ⟨_, _, _, rfl, ?_⟩
      refine ⟨F, ?_⟩
      refine callX_sy (T _ (Hp.nil _)) (fun _ _ ⟨_, _, _, _, p, _⟩ => p.fr) (allc (fun h => by cases h) (allc (fun h => by cases h) (allc (fun h => by cases h) alln))) ?_
      rintro v29 hv56 ⟨rA29, rL29, rC29, r_39, PP, rfl, T⟩
      have F : Fr _ _ hv56 := F.trans PP.fr.nil
      have fshv56 := F.size
      have Y : Sy _ _ hv56 [_, _, _, _, _, _, _, _] := Y.callV PP ⟨rfl, trivial⟩
      clear PP
      obtain rfl := Y.lenS 7 rfl
      refine ⟨_, _, _, rfl, ?_⟩
      refine ⟨F, ?_⟩
      exact hK _ _ _ _ _ _ _ _ _ _ _ _ _ _ ⟨_, _, _, _, Y.pick [4, 5, 6, 7, 3, 0, 1, 2] rfl, T⟩
    · refine callX_sy (T _ (Hp.nil _)) (fun _ _ ⟨_, _, _, _, p, _⟩ => p.fr) (allc (fun h => by cases h) (allc (fun h => by cases h) (allc (fun h => by cases h) alln))) ?_
      rintro v30 hv57 ⟨rA30, rL30, rC30, r_40, PP, rfl, T⟩
      have F : Fr _ _ hv57 := F.trans PP.fr.nil
      have fshv57 := F.size
      have Y : Sy _ _ hv57 [_, _, _, _, _] := Y.callV PP ⟨rfl, trivial⟩
      clear PP
      obtain rfl := Y.lenS 4 rfl
      refine ⟨_, _, _, rfl, ?_⟩
      refine ⟨F, ?_⟩
      refine ⟨?_, ?_⟩
      · intro hv58
        have Y : Sy _ _ hv58 [_, _, _, _, _, _] := Y.litS (E := eI) (ty := 3) ([s] : List Int) rfl (by simp [maxLen])
        have F : Fr _ _ hv58 := F.pushr _
        have fshv58 := F.size
        clear_value hv58
        refine ⟨F, ?_⟩
        refine callX_sy (T _ (Hp.nil _)) (fun _ _ ⟨_, _, _, _, p, _⟩ => p.fr) (allc (fun h => by cases h) (allc (fun h => by cases h) (allc (fun h => by cases h) alln))) ?_
        rintro v31 hv59 ⟨rA31, rL31, rC31, r_41, PP, rfl, T⟩
        have F : Fr _ _ hv59 := F.trans PP.fr.nil
        have fshv59 := F.size
        have Y : Sy _ _ hv59 [_, _, _, _, _, _, _] := Y.callV PP ⟨rfl, trivial⟩
        clear PP
        obtain rfl := Y.lenS 6 rfl
        refine ⟨_, _, _, rfl, ?_⟩
        refine ⟨F, ?_⟩
        refine callX_sy (T _ (Hp.nil _)) (fun _ _ ⟨_, _, _, _, p, _⟩ => p.fr) (allc (fun h => by cases h) (allc (fun h => by cases h) (allc (fun h => by cases h) alln))) ?_
        rintro v32 hv60 ⟨rA32, rL32, rC32, r_42, PP, rfl, T⟩
        have F : Fr _ _ hv60 := F.trans PP.fr.nil
        have fshv60 := F.size
        have Y : Sy _ _ hv60 [_, _, _, _, _, _, _, _] := Y.callV PP ⟨rfl, trivial⟩
        clear PP
        obtain rfl := Y.lenS 7 rfl
        refine ⟨_, _, _, rfl, ?_⟩
        refine ⟨F, ?_⟩
        exact hK _ _ _ _ _ _ _ _ _ _ _ _ _ _ ⟨_, _, _, _, Y.pick [5, 4, 6, 7, 3, 0, 1, 2] rfl, T⟩
      · refine callX_sy (T _ (Hp.nil _)) (fun _ _ ⟨_, _, _, _, p, _⟩ => p.fr) (allc (fun h => by cases h) (allc (fun h => by cases h) (allc (fun h => by cases h) alln))) ?_
        rintro v33 hv61 ⟨rA33, rL33, rC33, r_43, PP, rfl, T⟩
        have F : Fr _ _ hv61 := F.trans PP.fr.nil
        have fshv61 := F.size
        have Y : Sy _ _ hv61 [_, _, _, _, _, _] := Y.callV PP ⟨rfl, trivial⟩
        clear PP
        obtain rfl := Y.lenS 5 rfl
        refine ⟨_, _, _, rfl, ?_⟩
        refine ⟨F, ?_⟩
        refine ⟨?_, ?_⟩
        · intro hv62
          have Y : Sy _ _ hv62 [_, _, _, _, _, _, _] := Y.litS (E := eI) (ty := 3) ([s] : List Int) rfl (by simp [maxLen])
          have F : Fr _ _ hv62 := F.pushr _
          have fshv62 := F.size
          clear_value hv62
          refine ⟨F, ?_⟩
          refine callX_sy (T _ (Hp.nil _)) (fun _ _ ⟨_, _, _, _, p, _⟩ => p.fr) (allc (fun h => by cases h) (allc (fun h => by cases h) (allc (fun h => by cases h) alln))) ?_
          rintro v34 hv63 ⟨rA34, rL34, rC34, r_44, PP, rfl, T⟩
          have F : Fr _ _ hv63 := F.trans PP.fr.nil
          have fshv63 := F.size
          have Y : Sy _ _ hv63 [_, _, _, _, _, _, _, _] := Y.callV PP ⟨rfl, trivial⟩
          clear PP
          obtain rfl := Y.lenS 7 rfl
          refine ⟨_, _, _, rfl, ?_⟩
          refine ⟨F, ?_⟩
          exact hK _ _ _ _ _ _ _ _ _ _ _ _ _ _ ⟨_, _, _, _, Y.pick [6, 4, 5, 7, 3, 0, 1, 2] rfl, T⟩
        · refine callX_sy (T _ (Hp.nil _)) (fun _ _ ⟨_, _, _, _, p, _⟩ => p.fr) (allc (fun h => by cases h) (allc (fun h => by cases h) (allc (fun h => by cases h) alln))) ?_
          rintro v35 hv64 ⟨rA35, rL35, rC35, r_45, PP, rfl, T⟩
          have F : Fr _ _ hv64 := F.trans PP.fr.nil
          have fshv64 := F.size
          have Y : Sy _ _ hv64 [_, _, _, _, _, _, _] := Y.callV PP ⟨rfl, trivial⟩
          clear PP
          obtain rfl := Y.lenS 6 rfl
          refine ⟨_, _, _, rfl, ?_⟩
          refine ⟨F, ?_⟩
          intro hv65
          have Y : Sy _ _ hv65 [_, _, _, _, _, _, _, _] := Y.litS (E := eI) (ty := 3) ([s] : List Int) rfl (by simp [maxLen])
          have F : Fr _ _ hv65 := F.pushr _
          have fshv65 := F.size
          clear_value hv65
          refine ⟨F, ?_⟩
          exact hK _ _ _ _ _ _ _ _ _ _ _ _ _ _ ⟨_, _, _, _, Y.pick [7, 4, 5, 6, 3, 0, 1, 2] rfl, T⟩
/-- tracery/tracerylaw6.Same -/
def S86 (aA : Option Addr) (aL aC : Nat) (aA2 : Option Addr) (aL2 aC2 : Nat) (aA3 : Option Addr) (aL3 aC3 : Nat) (aA4 : Option Addr) (aL4 aC4 : Nat) (bA : Option Addr) (bL bC : Nat) (bA2 : Option Addr) (bL2 bC2 : Nat) (bA3 : Option Addr) (bL3 bC3 : Nat) (bA4 : Option Addr) (bL4 bC4 : Nat) (h : Heap) (R : Value → Heap → Prop) : Prop :=
  let hv : Heap := h.push (.cells #[.slice aA aL aC, .slice aA2 aL2 aC2, .slice aA3 aL3 aC3, .slice aA4 aL4 aC4] 113)
  let hv2 : Heap := hv.push (.cells #[.slice bA bL bC, .slice bA2 bL2 bC2, .slice bA3 bL3 bC3, .slice bA4 bL4 bC4] 113)
  let K := fun (hv7 : Heap) =>
    (R (.bool false) hv7)
  callX Try.prog 68 #[.slice aA aL aC, .slice bA bL bC] hv2 [hv.size, h.size] fun v hv3 =>
  ∃ r : Bool, v = .bool r ∧
  cnd r
    (callX Try.prog 68 #[.slice aA2 aL2 aC2, .slice bA2 bL2 bC2] hv3 [hv.size, h.size] fun v2 hv4 =>
    ∃ r2 : Bool, v2 = .bool r2 ∧
    cnd r2
      (callX Try.prog 68 #[.slice aA3 aL3 aC3, .slice bA3 bL3 bC3] hv4 [hv.size, h.size] fun v3 hv5 =>
      ∃ r3 : Bool, v3 = .bool r3 ∧
      cnd r3
        (callX Try.prog 68 #[.slice aA4 aL4 aC4, .slice bA4 bL4 bC4] hv5 [hv.size, h.size] fun v4 hv6 =>
        ∃ r4 : Bool, v4 = .bool r4 ∧
        R (.bool r4) hv6)
        (K hv5))
      (K hv4))
    (K hv3)
theorem calls86 {h : Heap} {R : Value → Heap → Prop} (aA : Option Addr) (aL aC : Nat) (aA2 : Option Addr) (aL2 aC2 : Nat) (aA3 : Option Addr) (aL3 aC3 : Nat) (aA4 : Option Addr) (aL4 aC4 : Nat) (bA : Option Addr) (bL bC : Nat) (bA2 : Option Addr) (bL2 bC2 : Nat) (bA3 : Option Addr) (bL3 bC3 : Nat) (bA4 : Option Addr) (bL4 bC4 : Nat) (H : S86 aA aL aC aA2 aL2 aC2 aA3 aL3 aC3 aA4 aL4 aC4 bA bL bC bA2 bL2 bC2 bA3 bL3 bC3 bA4 bL4 bC4 h R) : CallsH Try.prog 86 #[.agg #[.slice aA aL aC, .slice aA2 aL2 aC2, .slice aA3 aL3 aC3, .slice aA4 aL4 aC4], .agg #[.slice bA bL bC, .slice bA2 bL2 bC2, .slice bA3 bL3 bC3, .slice bA4 bL4 bC4]] h R := by
  have e : S86 aA aL aC aA2 aL2 aC2 aA3 aL3 aC3 aA4 aL4 aC4 bA bL bC bA2 bL2 bC2 bA3 bL3 bC3 bA4 bL4 bC4 h R = FX (envX [2, 3] 31) { loops := [], joins := [], blocks := [], draws := [] } Try.f86 (Try.f86.body.getD .skip) [.agg #[.slice aA aL aC, .slice aA2 aL2 aC2, .slice aA3 aL3 aC3, .slice aA4 aL4 aC4], .agg #[.slice bA bL bC, .slice bA2 bL2 bC2, .slice bA3 bL3 bC3, .slice bA4 bL4 bC4]] h R := by kernel_rfl
  exact calls_of_FX (envX_ok _ _) Try.func86 (by kernel_rfl) (by kernel_rfl) (by kernel_rfl) (e ▸ H)
/-- tracery/tracerylaw6.Same -/
def Ok86 (orderV : List Int) (byV : List Int) (farV : List Int) (lowV : List Int) (orderV2 : List Int) (byV2 : List Int) (farV2 : List Int) (lowV2 : List Int) (R : Bool → Prop) : Prop :=
  ∀ (h : Heap) (aA : Option Addr) (aL aC : Nat) (aA2 : Option Addr) (aL2 aC2 : Nat) (aA3 : Option Addr) (aL3 aC3 : Nat) (aA4 : Option Addr) (aL4 aC4 : Nat) (bA : Option Addr) (bL bC : Nat) (bA2 : Option Addr) (bL2 bC2 : Nat) (bA3 : Option Addr) (bL3 bC3 : Nat) (bA4 : Option Addr) (bL4 bC4 : Nat), Hp h [Ck.vw eI aA aL aC orderV, Ck.vw eI aA2 aL2 aC2 byV, Ck.vw eI aA3 aL3 aC3 farV, Ck.vw eI aA4 aL4 aC4 lowV, Ck.vw eI bA bL bC orderV2, Ck.vw eI bA2 bL2 bC2 byV2, Ck.vw eI bA3 bL3 bC3 farV2, Ck.vw eI bA4 bL4 bC4 lowV2] → CallsH Try.prog 86 #[.agg #[.slice aA aL aC, .slice aA2 aL2 aC2, .slice aA3 aL3 aC3, .slice aA4 aL4 aC4], .agg #[.slice bA bL bC, .slice bA2 bL2 bC2, .slice bA3 bL3 bC3, .slice bA4 bL4 bC4]] h fun v h' => ∃ (rV : Bool), Sy h [] h' [] ∧ v = .bool rV ∧ R rV
theorem Ok86.mono {orderV byV farV lowV orderV2 byV2 farV2 lowV2} {R R' : Bool → Prop} (H : Ok86 orderV byV farV lowV orderV2 byV2 farV2 lowV2 R) (kz : ∀ rV, R rV → R' rV) : Ok86 orderV byV farV lowV orderV2 byV2 farV2 lowV2 R' :=
  fun h aA aL aC aA2 aL2 aC2 aA3 aL3 aC3 aA4 aL4 aC4 bA bL bC bA2 bL2 bC2 bA3 bL3 bC3 bA4 bL4 bC4 hp => (H h aA aL aC aA2 aL2 aC2 aA3 aL3 aC3 aA4 aL4 aC4 bA bL bC bA2 bL2 bC2 bA3 bL3 bC3 bA4 bL4 bC4 hp).mono fun _ _ ⟨rV, P, e, q⟩ => ⟨rV, P, e, kz _ q⟩
def T86 (orderV : List Int) (byV : List Int) (farV : List Int) (lowV : List Int) (orderV2 : List Int) (byV2 : List Int) (farV2 : List Int) (lowV2 : List Int) (R : Bool → Prop) : Prop :=
  ∃ Jv : Prop,
  ( Ok68 orderV orderV2 (fun r =>
   cnd r
     (Ok68 byV byV2 (fun r2 =>
     cnd r2
       (Ok68 farV farV2 (fun r3 =>
       cnd r3
         (Ok68 lowV lowV2 (fun r4 =>
         R r4))
         (Jv)))
       (Jv)))
     (Jv))) ∧
  (Jv →
  R false)
theorem ok86 {orderV byV farV lowV orderV2 byV2 farV2 lowV2} {R : Bool → Prop} (T : T86 orderV byV farV lowV orderV2 byV2 farV2 lowV2 R) : Ok86 orderV byV farV lowV orderV2 byV2 farV2 lowV2 R := by
  intro h aA aL aC aA2 aL2 aC2 aA3 aL3 aC3 aA4 aL4 aC4 bA bL bC bA2 bL2 bC2 bA3 bL3 bC3 bA4 bL4 bC4 H
  have Y : Sy h [] h _ := Sy.startM H rfl
  obtain rfl := Y.lenV 0 rfl
  obtain rfl := Y.lenV 1 rfl
  obtain rfl := Y.lenV 2 rfl
  obtain rfl := Y.lenV 3 rfl
  obtain rfl := Y.lenV 4 rfl
  obtain rfl := Y.lenV 5 rfl
  obtain rfl := Y.lenV 6 rfl
  obtain rfl := Y.lenV 7 rfl
  apply calls86
  unfold S86
  unfold T86 at T
  intro hv
  have Y : Sy _ _ hv [_, _, _, _, _, _, _, _, _] := Y.junk _
  clear_value hv
  intro hv2
  have Y : Sy _ _ hv2 [_, _, _, _, _, _, _, _, _, _] := Y.junk _
  clear_value hv2
  obtain ⟨Jv, T0, T1⟩ := T
  obtain ⟨B, hB, _⟩ := Y.cut [] [0, 1, 2, 3, 4, 5, 6, 7, 8, 9] rfl
  intro K
  have hK : ∀  (hv7 : Heap), (Sy h [] hv7 ([] ++ B) ∧ Jv) → K hv7 := by
    subst hB
    clear T0 Y
    rintro hv7 ⟨Y, T⟩
    replace T := T1 T
    have Y : Sy _ _ _ [_, _, _, _, _, _, _, _, _, _] := Y
    unfold K
    exact ⟨_, Y.pick [] rfl, rfl, T⟩
  subst hB
  replace T := T0
  clear T0 T1
  refine callX_sy (T _ _ _ _ _ _ _ (Y.pick [0, 4] rfl).hp) (fun _ _ ⟨_, p, _⟩ => p.fr) (allc (fun h => by cases h) (allc (fun h => by cases h) alln)) ?_
  rintro v hv3 ⟨r, PP, rfl, T⟩
  have Y : Sy _ _ hv3 [_, _, _, _, _, _, _, _, _, _] := Y.gr PP.fr
  clear PP
  refine ⟨r, rfl, ?_⟩
  refine cnd_imp T (fun T => ?_) (fun T => ?_)
  · refine callX_sy (T _ _ _ _ _ _ _ (Y.pick [1, 5] rfl).hp) (fun _ _ ⟨_, p, _⟩ => p.fr) (allc (fun h => by cases h) (allc (fun h => by cases h) alln)) ?_
    rintro v2 hv4 ⟨r2, PP, rfl, T⟩
    have Y : Sy _ _ hv4 [_, _, _, _, _, _, _, _, _, _] := Y.gr PP.fr
    clear PP
    refine ⟨r2, rfl, ?_⟩
    refine cnd_imp T (fun T => ?_) (fun T => ?_)
    · refine callX_sy (T _ _ _ _ _ _ _ (Y.pick [2, 6] rfl).hp) (fun _ _ ⟨_, p, _⟩ => p.fr) (allc (fun h => by cases h) (allc (fun h => by cases h) alln)) ?_
      rintro v3 hv5 ⟨r3, PP, rfl, T⟩
      have Y : Sy _ _ hv5 [_, _, _, _, _, _, _, _, _, _] := Y.gr PP.fr
      clear PP
      refine ⟨r3, rfl, ?_⟩
      refine cnd_imp T (fun T => ?_) (fun T => ?_)
      · refine callX_sy (T _ _ _ _ _ _ _ (Y.pick [3, 7] rfl).hp) (fun _ _ ⟨_, p, _⟩ => p.fr) (allc (fun h => by cases h) (allc (fun h => by cases h) alln)) ?_
        rintro v4 hv6 ⟨r4, PP, rfl, T⟩
        have Y : Sy _ _ hv6 [_, _, _, _, _, _, _, _, _, _] := Y.gr PP.fr
        clear PP
        refine ⟨r4, rfl, ?_⟩
        exact ⟨_, Y.pick [] rfl, rfl, T⟩
      · exact hK _ ⟨Y.pick [0, 1, 2, 3, 4, 5, 6, 7, 8, 9] rfl, T⟩
    · exact hK _ ⟨Y.pick [0, 1, 2, 3, 4, 5, 6, 7, 8, 9] rfl, T⟩
  · exact hK _ ⟨Y.pick [0, 1, 2, 3, 4, 5, 6, 7, 8, 9] rfl, T⟩
end Go.Proofs.Ytmcloipjlihhlaa.N
