/- Functions: what is left to be shown of each, over memory and without: printed by program, tied to the loaded functions by the kernel. Conditions: none. -/
import Derived.Test.YtmcloipjlihhlaaSEnv
import Derived.Test.YtmcloipjlihhlaaYMore
import Derived.Test.YtmcloipjlihhlaaTTutteL
namespace Go.Proofs.Ytmcloipjlihhlaa.N
open Go.Proofs.Ytmcloipjlihhlaa
open Go.X
set_option maxRecDepth 100000
set_option linter.unusedVariables false
set_option linter.unusedSimpArgs false
set_option maxHeartbeats 2000000

/-- tracery/tracerylaw28.TutteBetween -/
def S8 (g : Int) (gA : Option Addr) (gL gC : Nat) (xsA : Option Addr) (xsL xsC : Nat) (h : Heap) (R : Value → Heap → Prop) : Prop :=
  let hv : Heap := h.push (.cells #[.int .i64 g, .slice gA gL gC] 26)
  callX Try.prog 42 #[] hv [h.size] fun v hv2 =>
  ∃ r : Bool, v = .bool r ∧
  cnd (!r)
    (R (.bool false) hv2)
    (let K := fun (hv4 : Heap) =>
      (R (.bool true) hv4)
    callX Try.prog 43 #[.agg #[.int .i64 g, .slice gA gL gC]] hv2 [h.size] fun v2 hv3 =>
    ∃ r2 : Bool, v2 = .bool r2 ∧
    cnd (!r2)
      (K hv3)
      (cnd (decide (g > (60 : Int)))
        (K hv3)
        (cnd (decide (((gL : Nat) : Int) > (60 : Int)))
          (K hv3)
          (cnd (((xsL : Nat) : Int) != g)
            (R (.bool true) hv3)
            (∃ (Iv : List Value → Heap → Prop) (m : List Value → Heap → Nat), Iv [.slice none 0 0, .int .i64 0] hv3 ∧ -- loop 0: ['at', 'v']
            ∀ (atA : Option Addr) (atL atC : Nat), ∀ v3 : Int, ∀ hv5, Iv [.slice atA atL atC, .int .i64 v3] hv5 →
            cnd (decide (v3 < g))
              (∃ Mv : List Nat, (∀ b ∈ ([h.size] : List Nat), b ∉ Mv) ∧
              ∃ b o, xsA = some ⟨b, o, none⟩ ∧ 0 ≤ v3 ∧ v3 < (xsL : Nat) ∧ b ∉ Mv ∧ ∃ x : Int, hcell hv5 b (o + (Int.toNat v3) * 1) = some (.int .i8 x) ∧ ∃ b2 o2, xsA = some ⟨b2, o2, none⟩ ∧ 0 ≤ v3 ∧ v3 < (xsL : Nat) ∧ b2 ∉ Mv ∧ ∃ x2 : Int, hcell hv5 b2 (o2 + (Int.toNat v3) * 1) = some (.int .i8 x2) ∧ let hv6 : Heap := hv5.push (.cells #[.float .f64 ((FloatKind.f64).nearest x), .float .f64 (Op.negFloat .f64 ((FloatKind.f64).nearest x2))] 56)
              Fr Mv hv5 hv6 ∧
              ∃ old, Own hv6 56 2 atA atL atC old ∧ (∀ b ∈ ([hv5.size, h.size] : List Nat), b ∉ blkOf atA) ∧ (atL + 1) * 16 ≤ 140737488355328 ∧ (atL + 1) ≤ maxLen ∧
              ∀ sA sC hv7, Own hv7 56 2 sA (atL + 1) sC (old ++ [.float .f64 ((FloatKind.f64).nearest x), .float .f64 (Op.negFloat .f64 ((FloatKind.f64).nearest x2))]) → Fr (blkOf atA) hv6 hv7 → ((sA = atA ∧ sC = atC) ∨ ∃ g, sA = some ⟨g, 0, none⟩ ∧ hv6.size ≤ g) →
              Fr Mv hv5 hv7 ∧
              Iv [.slice sA (atL + 1) sC, .int .i64 (IntKind.i64.wrap (v3 + (1 : Int)))] hv7 ∧ m [.slice sA (atL + 1) sC, .int .i64 (IntKind.i64.wrap (v3 + (1 : Int)))] hv7 < m [.slice atA atL atC, .int .i64 v3] hv5)
              (0 ≤ g ∧ g ≤ g ∧ ((1 : Nat) : Int) * g ≤ 281474976710656 ∧ g ≤ 9223372036854775807 ∧ let hv8 : Heap := hv5.push (.cells (madeCells (List.toArray [.bool false]) (Int.toNat g * 1)) 4)
              Fr [] hv5 hv8 ∧
              callX Try.prog 46 #[.agg #[.int .i64 g, .slice gA gL gC], .slice atA atL atC, .slice (some (⟨hv5.size, 0, none⟩ : Addr)) (Int.toNat g) (Int.toNat g), .int .i64 1] hv8 [h.size] fun v4 hv9 =>
              ∃ (raA : Option Addr) (raL raC : Nat), ∃ rb : Int, v4 = .tuple #[.slice raA raL raC, .int .i64 rb] ∧
              Fr [] hv5 hv9 ∧
              cnd (rb != (0 : Int))
                (R (.bool false) hv9)
                (callX Try.prog 54 #[.agg #[.int .i64 g, .slice gA gL gC]] hv9 [h.size] fun v5 hv10 =>
                ∃ (rA : Option Addr) (rL rC : Nat), v5 = .slice rA rL rC ∧
                ∃ (Iv2 : List Value → Heap → Prop) (m2 : List Value → Heap → Nat), Iv2 [.int .i64 0] hv10 ∧ -- loop 2: ['v']
                ∀ v6 : Int, ∀ hv11, Iv2 [.int .i64 v6] hv11 →
                cnd (decide (v6 < g))
                  (∃ Jv : List Value → Heap → Prop, -- block 3 []
                  ( ∃ b3 o3, rA = some ⟨b3, o3, none⟩ ∧ 0 ≤ v6 ∧ v6 < (rL : Nat) ∧ ∃ (xA : Option Addr) (xL xC : Nat), hcell hv11 b3 (o3 + (Int.toNat v6) * 1) = some (.slice xA xL xC) ∧ cnd (((xL : Nat) : Int) == (0 : Int))
                     (∃ b4 o4, raA = some ⟨b4, o4, none⟩ ∧ 0 ≤ v6 ∧ v6 < (raL : Nat) ∧ ∃ x3 : Nat, hcell hv11 b4 (o4 + (Int.toNat v6) * 2) = some (.float .f64 x3) ∧ ∃ x4 : Nat, hcell hv11 b4 ((o4 + (Int.toNat v6) * 2) + 1) = some (.float .f64 x4) ∧ ∃ b5 o5, atA = some ⟨b5, o5, none⟩ ∧ 0 ≤ v6 ∧ v6 < (atL : Nat) ∧ ∃ x5 : Nat, hcell hv11 b5 (o5 + (Int.toNat v6) * 2) = some (.float .f64 x5) ∧ ∃ x6 : Nat, hcell hv11 b5 ((o5 + (Int.toNat v6) * 2) + 1) = some (.float .f64 x6) ∧ cnd (!((FloatKind.f64.format.order x3 x5 == some .eq) && (FloatKind.f64.format.order x4 x6 == some .eq)))
                       (R (.bool false) hv11)
                       (Jv [] hv11))
                     (∃ (Iv3 : List Value → Heap → Prop) (m3 : List Value → Heap → Nat), Iv3 [.float .f64 4641240890982006784, .float .f64 13864612927836782592, .float .f64 0, .int .i64 0] hv11 ∧ -- loop 4: ['lo', 'hi', 'sum', 'k']
                     ∀ lo : Nat, ∀ hi : Nat, ∀ sum : Nat, ∀ k : Int, ∀ hv12, Iv3 [.float .f64 lo, .float .f64 hi, .float .f64 sum, .int .i64 k] hv12 →
                     ∃ b6 o6, rA = some ⟨b6, o6, none⟩ ∧ 0 ≤ v6 ∧ v6 < (rL : Nat) ∧ ∃ (xA2 : Option Addr) (xL2 xC2 : Nat), hcell hv12 b6 (o6 + (Int.toNat v6) * 1) = some (.slice xA2 xL2 xC2) ∧ cnd (decide (k < ((xL2 : Nat) : Int)))
                       (∃ b7 o7, rA = some ⟨b7, o7, none⟩ ∧ 0 ≤ v6 ∧ v6 < (rL : Nat) ∧ ∃ (xA3 : Option Addr) (xL3 xC3 : Nat), hcell hv12 b7 (o7 + (Int.toNat v6) * 1) = some (.slice xA3 xL3 xC3) ∧ ∃ b8 o8, xA3 = some ⟨b8, o8, none⟩ ∧ 0 ≤ k ∧ k < (xL3 : Nat) ∧ ∃ x7 : Int, hcell hv12 b8 (o8 + (Int.toNat k) * 1) = some (.int .i64 x7) ∧ callX Try.prog 55 #[.agg #[.int .i64 g, .slice gA gL gC], .int .i64 x7] hv12 [h.size] fun v7 hv13 =>
                       ∃ r3 : Int, v7 = .int .i64 r3 ∧
                       Fr [] hv12 hv13 ∧
                       ∃ b9 o9, atA = some ⟨b9, o9, none⟩ ∧ 0 ≤ r3 ∧ r3 < (atL : Nat) ∧ ∃ x8 : Nat, hcell hv13 b9 (o9 + (Int.toNat r3) * 2) = some (.float .f64 x8) ∧ ∃ x9 : Nat, fmm .f64 false lo x8 = some x9 ∧ ∃ x10 : Nat, fmm .f64 true hi x8 = some x10 ∧ ∀ r4, FRes .f64 sum x8 ((FloatKind.f64).format.add sum x8) r4 → Iv3 [.float .f64 x9, .float .f64 x10, .float .f64 r4, .int .i64 (IntKind.i64.wrap (k + (1 : Int)))] hv13 ∧ m3 [.float .f64 x9, .float .f64 x10, .float .f64 r4, .int .i64 (IntKind.i64.wrap (k + (1 : Int)))] hv13 < m3 [.float .f64 lo, .float .f64 hi, .float .f64 sum, .int .i64 k] hv12)
                       (let K2 := fun (hv14 : Heap) =>
                         (R (.bool false) hv14)
                       ∃ b10 o10, raA = some ⟨b10, o10, none⟩ ∧ 0 ≤ v6 ∧ v6 < (raL : Nat) ∧ ∃ x11 : Nat, hcell hv12 b10 (o10 + (Int.toNat v6) * 2) = some (.float .f64 x11) ∧ cnd ((FloatKind.f64).format.order x11 lo == some .lt)
                         (Fr [] hv12 hv12 ∧
                         K2 hv12)
                         (∃ b11 o11, raA = some ⟨b11, o11, none⟩ ∧ 0 ≤ v6 ∧ v6 < (raL : Nat) ∧ ∃ x12 : Nat, hcell hv12 b11 (o11 + (Int.toNat v6) * 2) = some (.float .f64 x12) ∧ cnd ((FloatKind.f64).format.order x12 hi == some .gt)
                           (Fr [] hv12 hv12 ∧
                           K2 hv12)
                           (∃ b12 o12, raA = some ⟨b12, o12, none⟩ ∧ 0 ≤ v6 ∧ v6 < (raL : Nat) ∧ ∃ x13 : Nat, hcell hv12 b12 (o12 + (Int.toNat v6) * 2) = some (.float .f64 x13) ∧ ∃ b13 o13, rA = some ⟨b13, o13, none⟩ ∧ 0 ≤ v6 ∧ v6 < (rL : Nat) ∧ ∃ (xA4 : Option Addr) (xL4 xC4 : Nat), hcell hv12 b13 (o13 + (Int.toNat v6) * 1) = some (.slice xA4 xL4 xC4) ∧ ∀ r5, FRes .f64 sum ((FloatKind.f64).nearest ((xL4 : Nat) : Int)) ((FloatKind.f64).format.div sum ((FloatKind.f64).nearest ((xL4 : Nat) : Int))) r5 → Fr [] hv12 hv12 ∧
                           cnd ((FloatKind.f64).format.order x13 r5 != some .eq)
                             (K2 hv12)
                             (∃ b14 o14, raA = some ⟨b14, o14, none⟩ ∧ 0 ≤ v6 ∧ v6 < (raL : Nat) ∧ ∃ x14 : Nat, hcell hv12 b14 ((o14 + (Int.toNat v6) * 2) + 1) = some (.float .f64 x14) ∧ ∃ b15 o15, raA = some ⟨b15, o15, none⟩ ∧ 0 ≤ v6 ∧ v6 < (raL : Nat) ∧ ∃ x15 : Nat, hcell hv12 b15 (o15 + (Int.toNat v6) * 2) = some (.float .f64 x15) ∧ cnd ((FloatKind.f64).format.order x14 (Op.negFloat .f64 x15) != some .eq)
                               (R (.bool false) hv12)
                               (Jv [] hv12))))))) ∧
                  ∀ hv15, Jv [] hv15 →
                  Iv2 [.int .i64 (IntKind.i64.wrap (v6 + (1 : Int)))] hv15 ∧ m2 [.int .i64 (IntKind.i64.wrap (v6 + (1 : Int)))] hv15 < m2 [.int .i64 v6] hv11)
                  (R (.bool true) hv11))))))))

theorem calls8 {h : Heap} {R : Value → Heap → Prop} (g : Int) (gA : Option Addr) (gL gC : Nat) (xsA : Option Addr) (xsL xsC : Nat) (H : S8 g gA gL gC xsA xsL xsC h R) : CallsH Try.prog 8 #[.agg #[.int .i64 g, .slice gA gL gC], .slice xsA xsL xsC] h R := by
  have e : S8 g gA gL gC xsA xsL xsC h R = FX (envX [2, 58] 171) { loops := [(0, ⟨[1, 2], [5, 6], [2], []⟩), (2, ⟨[2, 5, 7, 9], [10], [2], []⟩), (4, ⟨[2, 5, 7, 9, 10], [11, 12, 13, 14], [2], []⟩)], joins := [], blocks := [(3, ⟨[2, 5, 7, 9, 10], [], [2], []⟩)], draws := [(9, ⟨16, true⟩), (10, ⟨11, false⟩), (18, ⟨9, false⟩), (24, ⟨10, false⟩), (28, ⟨46, false⟩)] } Try.f8 (Try.f8.body.getD .skip) [.agg #[.int .i64 g, .slice gA gL gC], .slice xsA xsL xsC] h R := by kernel_rfl
  exact calls_of_FX (envX_ok _ _) Try.func8 (by kernel_rfl) (by kernel_rfl) (by kernel_rfl) (e ▸ H)

/-- tracery/tracerylaw28.TutteBetween -/
def Ok8 (g : Int) (edgesV : List (Int × Int)) (xsV : List Int) (R : Bool → Prop) : Prop :=
  ∀ (h : Heap) (gA : Option Addr) (gL gC : Nat) (xsA : Option Addr) (xsL xsC : Nat), Hp h [Ck.vw eP gA gL gC edgesV, Ck.vw (eK .i8) xsA xsL xsC xsV] → CallsH Try.prog 8 #[.agg #[.int .i64 g, .slice gA gL gC], .slice xsA xsL xsC] h fun v h' => ∃ (rV : Bool), Sy h [] h' [] ∧ v = .bool rV ∧ R rV
theorem Ok8.mono {g edgesV xsV} {R R' : Bool → Prop} (H : Ok8 g edgesV xsV R) (kz : ∀ rV, R rV → R' rV) : Ok8 g edgesV xsV R' :=
  fun h gA gL gC xsA xsL xsC hp => (H h gA gL gC xsA xsL xsC hp).mono fun _ _ ⟨rV, P, e, q⟩ => ⟨rV, P, e, kz _ q⟩

def T8 (g : Int) (edgesV : List (Int × Int)) (xsV : List Int) (R : Bool → Prop) : Prop :=
  Ok42 (fun r =>
  cnd (!r)
    (R false)
    (∃ Jv_2 : Prop,
    ( Ok43 g edgesV (fun r2 =>
     cnd (!r2)
       (Jv_2)
       (cnd (decide (g > (60 : Int)))
         (Jv_2)
         (cnd (decide (((edgesV.length : Nat) : Int) > (60 : Int)))
           (Jv_2)
           (cnd (((xsV.length : Nat) : Int) != g)
             (R true)
             (∃ (Iv : List (Nat × Nat) → Int → Prop) (m : List (Nat × Nat) → Int → Nat), Iv ([] : List (Nat × Nat)) 0 ∧
             ∀ atv : List (Nat × Nat), ∀ v3 : Int, Iv atv v3 →
             cnd (decide (v3 < g))
               (0 ≤ v3 ∧ v3 < ((xsV.length : Nat) : Int) ∧ ∀ xs : Int, xsV[(Int.toNat v3)]? = some xs → (atv.length + 1) < 1000000000000 ∧ Iv (atv ++ [(((FloatKind.f64).nearest xs), (Op.negFloat .f64 ((FloatKind.f64).nearest xs)))]) (IntKind.i64.wrap (v3 + (1 : Int))) ∧ m (atv ++ [(((FloatKind.f64).nearest xs), (Op.negFloat .f64 ((FloatKind.f64).nearest xs)))]) (IntKind.i64.wrap (v3 + (1 : Int))) < m atv v3)
               (0 ≤ g ∧ g ≤ 1000000000000 ∧ Ok46 g edgesV atv (List.replicate (Int.toNat g) false) 1 (fun ra rb =>
               cnd (rb != (0 : Int))
                 (R false)
                 (Ok54 g edgesV (fun r_2 =>
                 ∃ (Iv2 : Int → Prop) (m2 : Int → Nat), Iv2 0 ∧
                 ∀ v6 : Int, Iv2 v6 →
                 cnd (decide (v6 < g))
                   (∃ Jv : Prop,
                   ( 0 ≤ v6 ∧ v6 < ((r_2.length : Nat) : Int) ∧ ∀ r_3 : List Int, r_2[(Int.toNat v6)]? = some r_3 → cnd (((r_3.length : Nat) : Int) == (0 : Int))
                      (0 ≤ v6 ∧ v6 < ((ra.length : Nat) : Int) ∧ ∀ ra_2 : (Nat × Nat), ra[(Int.toNat v6)]? = some ra_2 → 0 ≤ v6 ∧ v6 < ((atv.length : Nat) : Int) ∧ ∀ atv_2 : (Nat × Nat), atv[(Int.toNat v6)]? = some atv_2 → cnd (!((FloatKind.f64.format.order ra_2.1 atv_2.1 == some .eq) && (FloatKind.f64.format.order ra_2.2 atv_2.2 == some .eq)))
                        (R false)
                        (Jv))
                      (∃ (Iv3 : Nat → Nat → Nat → Int → Prop) (m3 : Nat → Nat → Nat → Int → Nat), Iv3 4641240890982006784 13864612927836782592 0 0 ∧
                      ∀ lo : Nat, ∀ hi : Nat, ∀ sum : Nat, ∀ k : Int, Iv3 lo hi sum k →
                      cnd (decide (k < ((r_3.length : Nat) : Int)))
                        (0 ≤ v6 ∧ v6 < ((r_2.length : Nat) : Int) ∧ ∀ r_5 : List Int, r_2[(Int.toNat v6)]? = some r_5 → 0 ≤ k ∧ k < ((r_5.length : Nat) : Int) ∧ ∀ x_2 : Int, r_5[(Int.toNat k)]? = some x_2 → Ok55 g edgesV x_2 (fun r3 =>
                        0 ≤ r3 ∧ r3 < ((atv.length : Nat) : Int) ∧ ∀ atv_3 : (Nat × Nat), atv[(Int.toNat r3)]? = some atv_3 → ∃ x9 : Nat, fmm .f64 false lo atv_3.1 = some x9 ∧ ∃ x10 : Nat, fmm .f64 true hi atv_3.1 = some x10 ∧ ∀ r4 : Nat, FRes .f64 sum atv_3.1 ((FloatKind.f64).format.add sum atv_3.1) r4 → Iv3 x9 x10 r4 (IntKind.i64.wrap (k + (1 : Int))) ∧ m3 x9 x10 r4 (IntKind.i64.wrap (k + (1 : Int))) < m3 lo hi sum k))
                        (∃ Jv_3 : Prop,
                        ( 0 ≤ v6 ∧ v6 < ((ra.length : Nat) : Int) ∧ ∀ ra_3 : (Nat × Nat), ra[(Int.toNat v6)]? = some ra_3 → cnd ((FloatKind.f64).format.order ra_3.1 lo == some .lt)
                           (Jv_3)
                           (cnd ((FloatKind.f64).format.order ra_3.1 hi == some .gt)
                             (Jv_3)
                             (0 ≤ v6 ∧ v6 < ((r_2.length : Nat) : Int) ∧ ∀ r_7 : List Int, r_2[(Int.toNat v6)]? = some r_7 → ∀ r5 : Nat, FRes .f64 sum ((FloatKind.f64).nearest ((r_7.length : Nat) : Int)) ((FloatKind.f64).format.div sum ((FloatKind.f64).nearest ((r_7.length : Nat) : Int))) r5 → cnd ((FloatKind.f64).format.order ra_3.1 r5 != some .eq)
                               (Jv_3)
                               (cnd ((FloatKind.f64).format.order ra_3.2 (Op.negFloat .f64 ra_3.1) != some .eq)
                                 (R false)
                                 (Jv))))) ∧
                        (Jv_3 →
                        R false)))) ∧
                   (Jv →
                   Iv2 (IntKind.i64.wrap (v6 + (1 : Int))) ∧ m2 (IntKind.i64.wrap (v6 + (1 : Int))) < m2 v6))
                   (R true))))))))))) ∧
    (Jv_2 →
    R true)))

theorem ok8 {g edgesV xsV} {R : Bool → Prop} (T : T8 g edgesV xsV R) : Ok8 g edgesV xsV R := by
  intro h gA gL gC xsA xsL xsC H
  have Y : Sy h [] h _ := Sy.startM H rfl
  obtain rfl := Y.lenV 0 rfl
  obtain rfl := Y.lenV 1 rfl
  apply calls8
  unfold S8
  unfold T8 at T
  intro hv
  have Y : Sy _ _ hv [_, _, _] := Y.junk _
  clear_value hv
  refine callX_sy (T _ (Hp.nil _)) (fun _ _ ⟨_, p, _⟩ => p.fr) (allc (fun h => by cases h) alln) ?_
  rintro v hv2 ⟨r, PP, rfl, T⟩
  have Y : Sy _ _ hv2 [_, _, _] := Y.gr PP.fr
  clear PP
  refine ⟨r, rfl, ?_⟩
  refine cnd_imp T (fun T => ?_) (fun T => ?_)
  · exact ⟨_, Y.pick [] rfl, rfl, T⟩
  · obtain ⟨Jv_2, T0, T1⟩ := T
    obtain ⟨B, hB, _⟩ := Y.cut [] [0, 1, 2] rfl
    intro K
    have hK : ∀  (hv4 : Heap), (Sy h [] hv4 ([] ++ B) ∧ Jv_2) → K hv4 := by
      subst hB
      clear T0 Y
      rintro hv4 ⟨Y, T⟩
      replace T := T1 T
      have Y : Sy _ _ _ [_, _, _] := Y
      unfold K
      exact ⟨_, Y.pick [] rfl, rfl, T⟩
    subst hB
    replace T := T0
    clear T0 T1
    refine callX_sy (T _ _ _ _ (Y.pick [0] rfl).hp) (fun _ _ ⟨_, p, _⟩ => p.fr) (allc (fun h => by cases h) alln) ?_
    rintro v2 hv3 ⟨r2, PP, rfl, T⟩
    have Y : Sy _ _ hv3 [_, _, _] := Y.gr PP.fr
    clear PP
    refine ⟨r2, rfl, ?_⟩
    refine cnd_imp T (fun T => ?_) (fun T => ?_)
    · exact hK _ ⟨Y.pick [0, 1, 2] rfl, T⟩
    · refine cnd_imp T (fun T => ?_) (fun T => ?_)
      · exact hK _ ⟨Y.pick [0, 1, 2] rfl, T⟩
      · refine cnd_imp T (fun T => ?_) (fun T => ?_)
        · exact hK _ ⟨Y.pick [0, 1, 2] rfl, T⟩
        · refine cnd_imp T (fun T => ?_) (fun T => ?_)
          · exact ⟨_, Y.pick [] rfl, rfl, T⟩
          · have Y : Sy _ _ _ [_, _, _, _] := Y.nilS eFF 56
            obtain ⟨Iv, m, T0, T1⟩ := T
            obtain ⟨B_2, hB_2, YB⟩ := Y.cut [3] [0, 1, 2] rfl
            obtain ⟨JJ, hJJ⟩ : ∃ JJ : Nat → List Value → Heap → Prop, JJ = (fun k_2 lz h' => ∃ (atA : Option Addr) (atL atC : Nat) (atv : List (Nat × Nat)) (v3 : Int), lz = [.slice atA atL atC, .int .i64 v3] ∧ Sy h [] h' ([Ck.sl eFF 56 atA atL atC atv] ++ B_2) ∧ Iv atv v3 ∧ m atv v3 = k_2) := ⟨_, rfl⟩
            refine ⟨fun lz h' => ∃ k_2, JJ k_2 lz h', Lm JJ, ?_, ?_⟩
            · subst hJJ hB_2
              exact ⟨_, _, _, _, _, _, rfl, YB, T0, rfl⟩
            · clear YB T0 Y
              intro atA atL atC v3 hv5 hI
              obtain ⟨k_2, hI, hm⟩ := loopIn hI
              subst hJJ hB_2
              obtain ⟨atA, atL, atC, atv, v3, e, Y, T, rfl⟩ := hI
              cases e
              obtain rfl := Y.lenS 0 rfl
              replace T := T1 atv v3 T
              have Y : Sy _ _ _ [_, _, _, _] := Y
              refine cnd_imp T (fun T => ?_) (fun T => ?_)
              · have Y0 := Y
                obtain ⟨Mx, hMx⟩ := Y.mt [0] []
                refine ⟨Mx, ?_⟩
                subst hMx
                refine ⟨(allc (Y0.nMJ 3 [0] [] rfl rfl) alln), ?_⟩
                have F : Fr _ hv5 hv5 := Y0.frM [0] []
                obtain ⟨q, q_2, T⟩ := T
                obtain ⟨b_2, o_2, hb, hr, xs, hx⟩ := Y0.atV 2 rfl q q_2
                refine ⟨b_2, o_2, hb, q, q_2, ?_⟩
                refine ⟨(Y0.nMv 2 [0] [] rfl rfl hr), ?_⟩
                replace T := T xs hx
                refine ⟨_, Y0.cellV 2 rfl hb (t := 0) hx rfl, ?_⟩
                refine ⟨b_2, o_2, hb, q, q_2, ?_⟩
                refine ⟨(Y0.nMv 2 [0] [] rfl rfl hr), ?_⟩
                refine ⟨_, Y0.cellV 2 rfl hb (t := 0) hx rfl, ?_⟩
                intro hv6
                have Y : Sy _ _ hv6 [_, _, _, _, _] := Y.junk _
                have F : Fr _ _ hv6 := F.pushr _
                have fshv6 := F.size
                clear_value hv6
                refine ⟨F, ?_⟩
                obtain ⟨q_3, T⟩ := T
                refine ⟨_, Y.ownS 0 rfl, (allc (Y.nJ 0 4 rfl rfl rfl) (allc (Y.nJ 0 3 rfl rfl rfl) alln)), by omega, by simp [maxLen]; omega, ?_⟩
                intro sA sC hv7 ow fA gA
                have Y : Sy _ _ hv7 [_, _, _, _, _] := Y.appS 0 rfl ([(((FloatKind.f64).nearest xs), (Op.negFloat .f64 ((FloatKind.f64).nearest xs)))] : List (Nat × Nat)) ow fA gA rfl rfl
                have ns := F.appIn (Y0.inMo 0 [0] [] rfl rfl) gA fshv6
                have F : Fr _ _ hv7 := F.comp fA (Y0.inMo 0 [0] [] rfl rfl)
                have fshv7 := F.size
                refine ⟨F, ?_⟩
                exact loopBack hm ⟨_, _, _, _, _, rfl, Y.pick [0, 1, 2, 3] rfl, T.1, rfl⟩ T.2
              · have Y0 := Y
                have F : Fr [] hv5 hv5 := Fr.refl _ _
                obtain ⟨q_4, q_6, T⟩ := T
                refine ⟨q_4, Int.le_refl _, by omega, by omega, ?_⟩
                intro hv8
                have Y : Sy _ _ hv8 [_, _, _, _, _] := Y.mkS (E := eB) (ty := 4) false (Int.toNat g) (Int.toNat g) (Nat.le_refl _) (by simp [maxLen]; omega)
                have F : Fr _ _ hv8 := F.pushr _
                have fshv8 := F.size
                clear_value hv8
                refine ⟨F, ?_⟩
                refine callX_sy (T _ _ _ _ _ _ _ _ _ _ (((Y.turn 0 rfl To.slvw).turn 4 rfl To.slvw).pick [1, 0, 4] rfl).hp) (fun _ _ ⟨_, _, _, _, _, p, _⟩ => p.fr) (allc (fun h => by cases h) alln) ?_
                rintro v4 hv9 ⟨raA, raL, raC, ra, rb, PP, rfl, T⟩
                have F : Fr _ _ hv9 := F.trans PP.fr.nil
                have fshv9 := F.size
                have Y : Sy _ _ hv9 [_, _, _, _, _, _] := Y.callV PP ⟨rfl, trivial⟩
                clear PP
                obtain rfl := Y.lenS 5 rfl
                refine ⟨_, _, _, rb, rfl, ?_⟩
                refine ⟨F, ?_⟩
                refine cnd_imp T (fun T => ?_) (fun T => ?_)
                · exact ⟨_, Y.pick [] rfl, rfl, T⟩
                · refine callX_sy (T _ _ _ _ (Y.pick [1] rfl).hp) (fun _ _ ⟨_, _, _, _, _, p, _⟩ => p.fr) (allc (fun h => by cases h) alln) ?_
                  rintro v5 hv10 ⟨rA, rL, rC, rH, r_2, PP, rfl, T⟩
                  have Y : Sy _ _ hv10 [_, _, _, _, _, _, _] := Y.callV PP ⟨rfl, trivial⟩
                  clear PP
                  obtain rfl := Y.lenR 6 rfl
                  refine ⟨_, _, _, rfl, ?_⟩
                  obtain ⟨Iv2, m2, T0, T1⟩ := T
                  obtain ⟨B_3, hB_3, YB⟩ := Y.cut [] [0, 1, 2, 3, 4, 5, 6] rfl
                  obtain ⟨JJ_2, hJJ_2⟩ : ∃ JJ_2 : Nat → List Value → Heap → Prop, JJ_2 = (fun k_3 lz h' => ∃ (v6 : Int), lz = [.int .i64 v6] ∧ Sy h [] h' ([] ++ B_3) ∧ Iv2 v6 ∧ m2 v6 = k_3) := ⟨_, rfl⟩
                  refine ⟨fun lz h' => ∃ k_3, JJ_2 k_3 lz h', Lm JJ_2, ?_, ?_⟩
                  · subst hJJ_2 hB_3
                    exact ⟨_, _, rfl, YB, T0, rfl⟩
                  · clear YB T0 Y
                    intro v6 hv11 hI
                    obtain ⟨k_3, hI, hm_2⟩ := loopIn hI
                    subst hJJ_2 hB_3
                    obtain ⟨v6, e, Y, T, rfl⟩ := hI
                    cases e
                    replace T := T1 v6 T
                    have Y : Sy _ _ _ [_, _, _, _, _, _, _] := Y
                    refine cnd_imp T (fun T => ?_) (fun T => ?_)
                    · obtain ⟨Jv, T0, T1⟩ := T
                      obtain ⟨B_4, hB_4, _⟩ := Y.cut [] [0, 1, 2, 3, 4, 5, 6] rfl
                      refine ⟨fun lz h' => lz = [] ∧ Sy h [] h' ([] ++ B_4) ∧ Jv, ?_, ?_⟩
                      · subst hB_4
                        replace T := T0
                        clear T0 T1
                        obtain ⟨q_7, q_8, T⟩ := T
                        obtain ⟨b_3, hb_2, ho, r_3, hx_2, r_4, hr_2⟩ := Y.atR 6 rfl q_7 q_8
                        refine ⟨b_3, 0, hb_2, q_7, q_8, ?_⟩
                        replace T := T r_3 hx_2
                        refine ⟨_, _, _, Y.cellR 6 rfl hb_2 hr_2 hx_2, ?_⟩
                        refine cnd_imp T (fun T => ?_) (fun T => ?_)
                        · have Y0 := Y
                          have F : Fr [] hv11 hv11 := Fr.refl _ _
                          obtain ⟨q_9, q_10, T⟩ := T
                          obtain ⟨b_4, hb_3, ho_2, ra_2, hx_3⟩ := Y0.atS 5 rfl q_9 q_10
                          refine ⟨b_4, 0, hb_3, q_9, q_10, ?_⟩
                          replace T := T ra_2 hx_3
                          refine ⟨_, Y0.cellS 5 rfl hb_3 (t := 0) hx_3 rfl, ?_⟩
                          refine ⟨_, Y0.cellS 5 rfl hb_3 (t := 1) hx_3 rfl, ?_⟩
                          obtain ⟨q_11, q_12, T⟩ := T
                          obtain ⟨b_5, hb_4, ho_3, atv_2, hx_4⟩ := Y0.atS 0 rfl q_11 q_12
                          refine ⟨b_5, 0, hb_4, q_11, q_12, ?_⟩
                          replace T := T atv_2 hx_4
                          refine ⟨_, Y0.cellS 0 rfl hb_4 (t := 0) hx_4 rfl, ?_⟩
                          refine ⟨_, Y0.cellS 0 rfl hb_4 (t := 1) hx_4 rfl, ?_⟩
                          refine cnd_imp T (fun T => ?_) (fun T => ?_)
                          · exact ⟨_, Y.pick [] rfl, rfl, T⟩
                          · exact ⟨rfl, Y.pick [0, 1, 2, 3, 4, 5, 6] rfl, T⟩
                        · obtain ⟨Iv3, m3, T0, T1⟩ := T
                          obtain ⟨B_5, hB_5, YB⟩ := Y.cut [] [0, 1, 2, 3, 4, 5, 6] rfl
                          obtain ⟨JJ_3, hJJ_3⟩ : ∃ JJ_3 : Nat → List Value → Heap → Prop, JJ_3 = (fun k_4 lz h' => ∃ (lo : Nat) (hi : Nat) (sum : Nat) (k : Int), lz = [.float .f64 lo, .float .f64 hi, .float .f64 sum, .int .i64 k] ∧ Sy h [] h' ([] ++ B_5) ∧ Iv3 lo hi sum k ∧ m3 lo hi sum k = k_4) := ⟨_, rfl⟩
                          refine ⟨fun lz h' => ∃ k_4, JJ_3 k_4 lz h', Lm JJ_3, ?_, ?_⟩
                          · subst hJJ_3 hB_5
                            exact ⟨_, _, _, _, _, rfl, YB, T0, rfl⟩
                          · clear YB T0 Y
                            intro lo hi sum k hv12 hI
                            obtain ⟨k_4, hI, hm_3⟩ := loopIn hI
                            subst hJJ_3 hB_5
                            obtain ⟨lo, hi, sum, k, e, Y, T, rfl⟩ := hI
                            cases e
                            replace T := T1 lo hi sum k T
                            have Y : Sy _ _ _ [_, _, _, _, _, _, _] := Y
                            refine ⟨b_3, 0, hb_2, q_7, q_8, ?_⟩
                            refine ⟨_, _, _, Y.cellR 6 rfl hb_2 hr_2 hx_2, ?_⟩
                            refine cnd_imp T (fun T => ?_) (fun T => ?_)
                            · have Y0 := Y
                              have F : Fr [] hv12 hv12 := Fr.refl _ _
                              obtain ⟨q_13, q_14, T⟩ := T
                              obtain ⟨b_6, hb_5, ho_4, r_5, hx_5, r_6, hr_3⟩ := Y0.atR 6 rfl q_13 q_14
                              refine ⟨b_6, 0, hb_5, q_13, q_14, ?_⟩
                              replace T := T r_5 hx_5
                              refine ⟨_, _, _, Y0.cellR 6 rfl hb_5 hr_3 hx_5, ?_⟩
                              obtain ⟨q_15, q_16, T⟩ := T
                              obtain ⟨b_7, hb_6, ho_5, x_2, hx_6⟩ := Y0.atRow 6 rfl hr_3 hx_5 q_15 q_16
                              refine ⟨b_7, 0, hb_6, q_15, q_16, ?_⟩
                              replace T := T x_2 hx_6
                              refine ⟨_, Y0.cellRow 6 rfl hr_3 hx_5 hb_6 (t := 0) hx_6 rfl, ?_⟩
                              refine callX_sy (T _ _ _ _ (Y.pick [1] rfl).hp) (fun _ _ ⟨_, p, _⟩ => p.fr) (allc (fun h => by cases h) alln) ?_
                              rintro v7 hv13 ⟨r3, PP, rfl, T⟩
                              have F : Fr _ _ hv13 := F.trans PP.fr.nil
                              have fshv13 := F.size
                              have Y : Sy _ _ hv13 [_, _, _, _, _, _, _] := Y.gr PP.fr
                              clear PP
                              refine ⟨r3, rfl, ?_⟩
                              refine ⟨F, ?_⟩
                              obtain ⟨q_17, q_18, T⟩ := T
                              obtain ⟨b_8, hb_7, ho_6, atv_3, hx_7⟩ := Y.atS 0 rfl q_17 q_18
                              refine ⟨b_8, 0, hb_7, q_17, q_18, ?_⟩
                              replace T := T atv_3 hx_7
                              refine ⟨_, Y.cellS 0 rfl hb_7 (t := 0) hx_7 rfl, ?_⟩
                              obtain ⟨x9, hq, T⟩ := T
                              refine ⟨x9, hq, ?_⟩
                              obtain ⟨x10, hq, T⟩ := T
                              refine ⟨x10, hq, ?_⟩
                              intro r4 hq
                              replace T := T r4 hq
                              exact loopBack hm_3 ⟨_, _, _, _, rfl, Y.pick [0, 1, 2, 3, 4, 5, 6] rfl, T.1, rfl⟩ T.2
                            · obtain ⟨Jv_3, T0, T1⟩ := T
                              obtain ⟨B_6, hB_6, _⟩ := Y.cut [] [0, 1, 2, 3, 4, 5, 6] rfl
                              intro K2
                              have hK2 : ∀  (hv14 : Heap), (Sy h [] hv14 ([] ++ B_6) ∧ Jv_3) → K2 hv14 := by
                                subst hB_6
                                clear T0 Y
                                rintro hv14 ⟨Y, T⟩
                                replace T := T1 T
                                have Y : Sy _ _ _ [_, _, _, _, _, _, _] := Y
                                unfold K2
                                exact ⟨_, Y.pick [] rfl, rfl, T⟩
                              subst hB_6
                              replace T := T0
                              clear T0 T1
                              have Y0 := Y
                              have F : Fr [] hv12 hv12 := Fr.refl _ _
                              obtain ⟨q_19, q_20, T⟩ := T
                              obtain ⟨b_9, hb_8, ho_7, ra_3, hx_8⟩ := Y0.atS 5 rfl q_19 q_20
                              refine ⟨b_9, 0, hb_8, q_19, q_20, ?_⟩
                              replace T := T ra_3 hx_8
                              refine ⟨_, Y0.cellS 5 rfl hb_8 (t := 0) hx_8 rfl, ?_⟩
                              refine cnd_imp T (fun T => ?_) (fun T => ?_)
                              · refine ⟨F, ?_⟩
                                exact hK2 _ ⟨Y.pick [0, 1, 2, 3, 4, 5, 6] rfl, T⟩
                              · refine ⟨b_9, 0, hb_8, q_19, q_20, ?_⟩
                                refine ⟨_, Y0.cellS 5 rfl hb_8 (t := 0) hx_8 rfl, ?_⟩
                                refine cnd_imp T (fun T => ?_) (fun T => ?_)
                                · refine ⟨F, ?_⟩
                                  exact hK2 _ ⟨Y.pick [0, 1, 2, 3, 4, 5, 6] rfl, T⟩
                                · refine ⟨b_9, 0, hb_8, q_19, q_20, ?_⟩
                                  refine ⟨_, Y0.cellS 5 rfl hb_8 (t := 0) hx_8 rfl, ?_⟩
                                  obtain ⟨q_21, q_22, T⟩ := T
                                  obtain ⟨b_10, hb_9, ho_8, r_7, hx_9, r_8, hr_4⟩ := Y0.atR 6 rfl q_21 q_22
                                  refine ⟨b_10, 0, hb_9, q_21, q_22, ?_⟩
                                  replace T := T r_7 hx_9
                                  refine ⟨_, _, _, Y0.cellR 6 rfl hb_9 hr_4 hx_9, ?_⟩
                                  intro r5 hq
                                  replace T := T r5 hq
                                  refine ⟨F, ?_⟩
                                  refine cnd_imp T (fun T => ?_) (fun T => ?_)
                                  · exact hK2 _ ⟨Y.pick [0, 1, 2, 3, 4, 5, 6] rfl, T⟩
                                  · refine ⟨b_9, 0, hb_8, q_19, q_20, ?_⟩
                                    refine ⟨_, Y0.cellS 5 rfl hb_8 (t := 1) hx_8 rfl, ?_⟩
                                    refine ⟨b_9, 0, hb_8, q_19, q_20, ?_⟩
                                    refine ⟨_, Y0.cellS 5 rfl hb_8 (t := 0) hx_8 rfl, ?_⟩
                                    refine cnd_imp T (fun T => ?_) (fun T => ?_)
                                    · exact ⟨_, Y.pick [] rfl, rfl, T⟩
                                    · exact ⟨rfl, Y.pick [0, 1, 2, 3, 4, 5, 6] rfl, T⟩
                      · subst hB_4
                        clear T0 Y
                        rintro hv15 ⟨e, Y, T⟩
                        cases e
                        replace T := T1 T
                        have Y : Sy _ _ _ [_, _, _, _, _, _, _] := Y
                        exact loopBack hm_2 ⟨_, rfl, Y.pick [0, 1, 2, 3, 4, 5, 6] rfl, T.1, rfl⟩ T.2
                    · exact ⟨_, Y.pick [] rfl, rfl, T⟩

end Go.Proofs.Ytmcloipjlihhlaa.N
