/- Functions: what is left to be shown of each, over memory and without: printed by program, tied to the loaded functions by the kernel. Conditions: none. -/
import Derived.Test.YtmcloipjlihhlaaSEnv
import Derived.Test.YtmcloipjlihhlaaYMore
import Derived.Test.YtmcloipjlihhlaaTRef
namespace Go.Proofs.Ytmcloipjlihhlaa.N
open Go.Proofs.Ytmcloipjlihhlaa
open Go.X
set_option maxRecDepth 100000
set_option linter.unusedVariables false
set_option linter.unusedSimpArgs false
set_option maxHeartbeats 2000000

/-- tracery/tracerylaw6.WalkFar -/
def S16 (g : Int) (gA : Option Addr) (gL gC : Nat) (s : Int) (h : Heap) (R : Value → Heap → Prop) : Prop :=
  let hv : Heap := h.push (.cells #[.int .i64 g, .slice gA gL gC] 26)
  callX Try.prog 80 #[] hv [h.size] fun v hv2 =>
  ∃ r : Bool, v = .bool r ∧
  cnd (!r)
    (R (.bool false) hv2)
    (callX Try.prog 81 #[.agg #[.int .i64 g, .slice gA gL gC], .int .i64 s] hv2 [h.size] fun v2 hv3 =>
    ∃ (raA : Option Addr) (raL raC : Nat), ∃ (raA2 : Option Addr) (raL2 raC2 : Nat), ∃ (raA3 : Option Addr) (raL3 raC3 : Nat), ∃ (raA4 : Option Addr) (raL4 raC4 : Nat), ∃ rb : Int, v2 = .tuple #[.agg #[.slice raA raL raC, .slice raA2 raL2 raC2, .slice raA3 raL3 raC3, .slice raA4 raL4 raC4], .int .i64 rb] ∧
    let hv4 : Heap := hv3.push (.cells #[.slice none 0 0, .slice none 0 0, .slice none 0 0, .slice none 0 0] 113)
    let hv5 : Heap := hset (hset (hset (hset hv4 hv3.size 0 (.slice raA raL raC)) hv3.size (0 + 1) (.slice raA2 raL2 raC2)) hv3.size ((0 + 1) + 1) (.slice raA3 raL3 raC3)) hv3.size (((0 + 1) + 1) + 1) (.slice raA4 raL4 raC4)
    callX Try.prog 83 #[.agg #[.int .i64 g, .slice gA gL gC]] hv5 [hv3.size, h.size] fun v3 hv6 =>
    ∃ (raA5 : Option Addr) (raL5 raC5 : Nat), ∃ rb2 : Int, ∃ rc : Int, v3 = .tuple #[.slice raA5 raL5 raC5, .int .i64 rb2, .int .i64 rc] ∧
    cnd (rb != (0 : Int))
      (R (.bool (((raL : Nat) : Int) == (0 : Int))) hv6)
      (let K := fun (hv7 : Heap) =>
        (R (.bool false) hv7)
      cnd (rc != (0 : Int))
        (K hv6)
        (cnd (((raL3 : Nat) : Int) != g)
          (K hv6)
          (∃ b o, raA3 = some ⟨b, o, none⟩ ∧ 0 ≤ s ∧ s < (raL3 : Nat) ∧ ∃ x : Int, hcell hv6 b (o + (Int.toNat s) * 1) = some (.int .i64 x) ∧ cnd (x != (0 : Int))
            (K hv6)
            (∃ b2 o2, raA = some ⟨b2, o2, none⟩ ∧ 0 ≤ (0 : Int) ∧ (0 : Int) < (raL : Nat) ∧ ∃ x2 : Int, hcell hv6 b2 (o2 + (Int.toNat (0 : Int)) * 1) = some (.int .i64 x2) ∧ cnd (x2 != s)
              (R (.bool false) hv6)
              (∃ (Iv : List Value → Heap → Prop) (m : List Value → Heap → Nat), Iv [.int .i64 0] hv6 ∧ -- loop 0: ['i']
              ∀ i : Int, ∀ hv8, Iv [.int .i64 i] hv8 →
              cnd (decide (i < ((gL : Nat) : Int)))
                (∃ b3 o3, gA = some ⟨b3, o3, none⟩ ∧ 0 ≤ i ∧ i < (gL : Nat) ∧ ∃ x3 : Int, hcell hv8 b3 ((o3 + (Int.toNat i) * 2) + 0) = some (.int .i64 x3) ∧ ∃ b4 o4, raA3 = some ⟨b4, o4, none⟩ ∧ 0 ≤ x3 ∧ x3 < (raL3 : Nat) ∧ ∃ x4 : Int, hcell hv8 b4 (o4 + (Int.toNat x3) * 1) = some (.int .i64 x4) ∧ ∃ b5 o5, gA = some ⟨b5, o5, none⟩ ∧ 0 ≤ i ∧ i < (gL : Nat) ∧ ∃ x5 : Int, hcell hv8 b5 ((o5 + (Int.toNat i) * 2) + 1) = some (.int .i64 x5) ∧ ∃ b6 o6, raA3 = some ⟨b6, o6, none⟩ ∧ 0 ≤ x5 ∧ x5 < (raL3 : Nat) ∧ ∃ x6 : Int, hcell hv8 b6 (o6 + (Int.toNat x5) * 1) = some (.int .i64 x6) ∧ let K2 := fun (hv9 : Heap) =>
                  (R (.bool false) hv9)
                cnd (!((decide (x4 < (0 : Int))) == (decide (x6 < (0 : Int)))))
                  (K2 hv8)
                  (cnd (decide ((IntKind.i64.wrap (x4 - x6)) > (1 : Int)))
                    (K2 hv8)
                    (cnd (decide ((IntKind.i64.wrap (x6 - x4)) > (1 : Int)))
                      (R (.bool false) hv8)
                      (Iv [.int .i64 (IntKind.i64.wrap (i + (1 : Int)))] hv8 ∧ m [.int .i64 (IntKind.i64.wrap (i + (1 : Int)))] hv8 < m [.int .i64 i] hv8))))
                (∃ (Iv2 : List Value → Heap → Prop) (m2 : List Value → Heap → Nat), Iv2 [.int .i64 0] hv8 ∧ -- loop 2: ['v']
                ∀ v4 : Int, ∀ hv10, Iv2 [.int .i64 v4] hv10 →
                cnd (decide (v4 < g))
                  (let K4 := fun (hv14 : Heap) =>
                    (Iv2 [.int .i64 (IntKind.i64.wrap (v4 + (1 : Int)))] hv14 ∧ m2 [.int .i64 (IntKind.i64.wrap (v4 + (1 : Int)))] hv14 < m2 [.int .i64 v4] hv10)
                  ∃ b7 o7, raA3 = some ⟨b7, o7, none⟩ ∧ 0 ≤ v4 ∧ v4 < (raL3 : Nat) ∧ ∃ x7 : Int, hcell hv10 b7 (o7 + (Int.toNat v4) * 1) = some (.int .i64 x7) ∧ ∃ b8 o8, raA5 = some ⟨b8, o8, none⟩ ∧ 0 ≤ v4 ∧ v4 < (raL5 : Nat) ∧ ∃ x8 : Int, hcell hv10 b8 (o8 + (Int.toNat v4) * 1) = some (.int .i64 x8) ∧ ∃ b9 o9, raA5 = some ⟨b9, o9, none⟩ ∧ 0 ≤ s ∧ s < (raL5 : Nat) ∧ ∃ x9 : Int, hcell hv10 b9 (o9 + (Int.toNat s) * 1) = some (.int .i64 x9) ∧ cnd (!((decide (x7 < (0 : Int))) == (x8 != x9)))
                    (R (.bool false) hv10)
                    (let K3 := fun (hv13 : Heap) =>
                      (K4 hv13)
                    cnd (v4 != s)
                      (∃ b10 o10, raA3 = some ⟨b10, o10, none⟩ ∧ 0 ≤ v4 ∧ v4 < (raL3 : Nat) ∧ ∃ x10 : Int, hcell hv10 b10 (o10 + (Int.toNat v4) * 1) = some (.int .i64 x10) ∧ cnd (decide (x10 ≥ (0 : Int)))
                        (∃ b11 o11, raA2 = some ⟨b11, o11, none⟩ ∧ 0 ≤ v4 ∧ v4 < (raL2 : Nat) ∧ ∃ x11 : Int, hcell hv10 b11 (o11 + (Int.toNat v4) * 1) = some (.int .i64 x11) ∧ callX Try.prog 55 #[.agg #[.int .i64 g, .slice gA gL gC], .int .i64 x11] hv10 [h.size, hv3.size] fun v5 hv11 =>
                        ∃ r2 : Int, v5 = .int .i64 r2 ∧
                        Fr [] hv10 hv11 ∧
                        cnd (r2 != v4)
                          (Fr [] hv10 hv11 ∧
                          R (.bool false) hv11)
                          (∃ b12 o12, raA2 = some ⟨b12, o12, none⟩ ∧ 0 ≤ v4 ∧ v4 < (raL2 : Nat) ∧ ∃ x12 : Int, hcell hv10 b12 (o12 + (Int.toNat v4) * 1) = some (.int .i64 x12) ∧ ∃ b13 o13, raA3 = some ⟨b13, o13, none⟩ ∧ 0 ≤ v4 ∧ v4 < (raL3 : Nat) ∧ ∃ x13 : Int, hcell hv10 b13 (o13 + (Int.toNat v4) * 1) = some (.int .i64 x13) ∧ callX Try.prog 88 #[.agg #[.int .i64 g, .slice gA gL gC], .int .i64 x12] hv11 [h.size, hv3.size] fun v6 hv12 =>
                          ∃ r3 : Int, v6 = .int .i64 r3 ∧
                          Fr [] hv10 hv12 ∧
                          ∃ b14 o14, raA3 = some ⟨b14, o14, none⟩ ∧ 0 ≤ r3 ∧ r3 < (raL3 : Nat) ∧ ∃ x14 : Int, hcell hv10 b14 (o14 + (Int.toNat r3) * 1) = some (.int .i64 x14) ∧ cnd (x14 != (IntKind.i64.wrap (x13 - (1 : Int))))
                            (R (.bool false) hv12)
                            (K4 hv12)))
                        (Fr [] hv10 hv10 ∧
                        Fr [] hv10 hv10 ∧
                        K3 hv10))
                      (Fr [] hv10 hv10 ∧
                      Fr [] hv10 hv10 ∧
                      K3 hv10)))
                  (R (.bool true) hv10))))))))

theorem calls16 {h : Heap} {R : Value → Heap → Prop} (g : Int) (gA : Option Addr) (gL gC : Nat) (s : Int) (H : S16 g gA gL gC s h R) : CallsH Try.prog 16 #[.agg #[.int .i64 g, .slice gA gL gC], .int .i64 s] h R := by
  have e : S16 g gA gL gC s h R = FX (envX [2, 5] 168) { loops := [(0, ⟨[1, 2, 5, 7], [10], [2, 5], []⟩), (2, ⟨[1, 2, 5, 7], [13], [2, 5], []⟩)], joins := [], blocks := [], draws := [(12, ⟨22, false⟩), (18, ⟨16, false⟩), (20, ⟨42, false⟩)] } Try.f16 (Try.f16.body.getD .skip) [.agg #[.int .i64 g, .slice gA gL gC], .int .i64 s] h R := by kernel_rfl
  exact calls_of_FX (envX_ok _ _) Try.func16 (by kernel_rfl) (by kernel_rfl) (by kernel_rfl) (e ▸ H)

/-- tracery/tracerylaw6.WalkFar -/
def Ok16 (g : Int) (edgesV : List (Int × Int)) (s : Int) (R : Bool → Prop) : Prop :=
  ∀ (h : Heap) (gA : Option Addr) (gL gC : Nat), Hp h [Ck.vw eP gA gL gC edgesV] → CallsH Try.prog 16 #[.agg #[.int .i64 g, .slice gA gL gC], .int .i64 s] h fun v h' => ∃ (rV : Bool), Sy h [] h' [] ∧ v = .bool rV ∧ R rV
theorem Ok16.mono {g edgesV s} {R R' : Bool → Prop} (H : Ok16 g edgesV s R) (kz : ∀ rV, R rV → R' rV) : Ok16 g edgesV s R' :=
  fun h gA gL gC hp => (H h gA gL gC hp).mono fun _ _ ⟨rV, P, e, q⟩ => ⟨rV, P, e, kz _ q⟩

def T16 (g : Int) (edgesV : List (Int × Int)) (s : Int) (R : Bool → Prop) : Prop :=
  Ok80 (fun r =>
  cnd (!r)
    (R false)
    (Ok81 g edgesV s (fun ra ra_2 ra_3 ra_4 rb =>
    Ok83 g edgesV (fun ra_5 rb2 rc =>
    cnd (rb != (0 : Int))
      (R (((ra.length : Nat) : Int) == (0 : Int)))
      (∃ Jv : Prop,
      ( cnd (rc != (0 : Int))
         (Jv)
         (cnd (((ra_3.length : Nat) : Int) != g)
           (Jv)
           (0 ≤ s ∧ s < ((ra_3.length : Nat) : Int) ∧ ∀ ra_6 : Int, ra_3[(Int.toNat s)]? = some ra_6 → cnd (ra_6 != (0 : Int))
             (Jv)
             (0 ≤ (0 : Int) ∧ (0 : Int) < ((ra.length : Nat) : Int) ∧ ∀ ra_7 : Int, ra[(Int.toNat (0 : Int))]? = some ra_7 → cnd (ra_7 != s)
               (R false)
               (∃ (Iv : Int → Prop) (m : Int → Nat), Iv 0 ∧
               ∀ i : Int, Iv i →
               cnd (decide (i < ((edgesV.length : Nat) : Int)))
                 (0 ≤ i ∧ i < ((edgesV.length : Nat) : Int) ∧ ∀ g_2 : (Int × Int), edgesV[(Int.toNat i)]? = some g_2 → 0 ≤ g_2.1 ∧ g_2.1 < ((ra_3.length : Nat) : Int) ∧ ∀ ra_8 : Int, ra_3[(Int.toNat g_2.1)]? = some ra_8 → 0 ≤ g_2.2 ∧ g_2.2 < ((ra_3.length : Nat) : Int) ∧ ∀ ra_9 : Int, ra_3[(Int.toNat g_2.2)]? = some ra_9 → ∃ Jv_2 : Prop,
                 ( cnd (!((decide (ra_8 < (0 : Int))) == (decide (ra_9 < (0 : Int)))))
                    (Jv_2)
                    (cnd (decide ((IntKind.i64.wrap (ra_8 - ra_9)) > (1 : Int)))
                      (Jv_2)
                      (cnd (decide ((IntKind.i64.wrap (ra_9 - ra_8)) > (1 : Int)))
                        (R false)
                        (Iv (IntKind.i64.wrap (i + (1 : Int))) ∧ m (IntKind.i64.wrap (i + (1 : Int))) < m i)))) ∧
                 (Jv_2 →
                 R false))
                 (∃ (Iv2 : Int → Prop) (m2 : Int → Nat), Iv2 0 ∧
                 ∀ v4 : Int, Iv2 v4 →
                 cnd (decide (v4 < g))
                   (∃ Jv_3 : Prop,
                   ( 0 ≤ v4 ∧ v4 < ((ra_3.length : Nat) : Int) ∧ ∀ ra_10 : Int, ra_3[(Int.toNat v4)]? = some ra_10 → 0 ≤ v4 ∧ v4 < ((ra_5.length : Nat) : Int) ∧ ∀ ra_11 : Int, ra_5[(Int.toNat v4)]? = some ra_11 → 0 ≤ s ∧ s < ((ra_5.length : Nat) : Int) ∧ ∀ ra_12 : Int, ra_5[(Int.toNat s)]? = some ra_12 → cnd (!((decide (ra_10 < (0 : Int))) == (ra_11 != ra_12)))
                      (R false)
                      (∃ Jv_4 : Prop,
                      ( cnd (v4 != s)
                         (cnd (decide (ra_10 ≥ (0 : Int)))
                           (0 ≤ v4 ∧ v4 < ((ra_2.length : Nat) : Int) ∧ ∀ ra_13 : Int, ra_2[(Int.toNat v4)]? = some ra_13 → Ok55 g edgesV ra_13 (fun r2 =>
                           cnd (r2 != v4)
                             (R false)
                             (Ok88 g edgesV ra_13 (fun r3 =>
                             0 ≤ r3 ∧ r3 < ((ra_3.length : Nat) : Int) ∧ ∀ ra_14 : Int, ra_3[(Int.toNat r3)]? = some ra_14 → cnd (ra_14 != (IntKind.i64.wrap (ra_10 - (1 : Int))))
                               (R false)
                               (Jv_3)))))
                           (Jv_4))
                         (Jv_4)) ∧
                      (Jv_4 →
                      Jv_3))) ∧
                   (Jv_3 →
                   Iv2 (IntKind.i64.wrap (v4 + (1 : Int))) ∧ m2 (IntKind.i64.wrap (v4 + (1 : Int))) < m2 v4))
                   (R true))))))) ∧
      (Jv →
      R false))))))

theorem ok16 {g edgesV s} {R : Bool → Prop} (T : T16 g edgesV s R) : Ok16 g edgesV s R := by
  intro h gA gL gC H
  have Y : Sy h [] h _ := Sy.startM H rfl
  obtain rfl := Y.lenV 0 rfl
  apply calls16
  unfold S16
  unfold T16 at T
  intro hv
  have Y : Sy _ _ hv [_, _] := Y.junk _
  clear_value hv
  refine callX_sy (T _ (Hp.nil _)) (fun _ _ ⟨_, p, _⟩ => p.fr) (allc (fun h => by cases h) alln) ?_
  rintro v hv2 ⟨r, PP, rfl, T⟩
  have Y : Sy _ _ hv2 [_, _] := Y.gr PP.fr
  clear PP
  refine ⟨r, rfl, ?_⟩
  refine cnd_imp T (fun T => ?_) (fun T => ?_)
  · exact ⟨_, Y.pick [] rfl, rfl, T⟩
  · refine callX_sy (T _ _ _ _ (Y.pick [0] rfl).hp) (fun _ _ ⟨_, _, _, _, _, _, _, _, _, _, _, _, _, _, _, _, _, p, _⟩ => p.fr) (allc (fun h => by cases h) alln) ?_
    rintro v2 hv3 ⟨raA, raL, raC, ra, raA2, raL2, raC2, ra_2, raA3, raL3, raC3, ra_3, raA4, raL4, raC4, ra_4, rb, PP, rfl, T⟩
    have Y : Sy _ _ hv3 [_, _, _, _, _, _] := Y.callV PP ⟨rfl, ⟨rfl, ⟨rfl, ⟨rfl, trivial⟩⟩⟩⟩
    clear PP
    obtain rfl := Y.lenS 2 rfl
    obtain rfl := Y.lenS 3 rfl
    obtain rfl := Y.lenS 4 rfl
    obtain rfl := Y.lenS 5 rfl
    refine ⟨_, _, _, _, _, _, _, _, _, _, _, _, rb, rfl, ?_⟩
    intro hv4
    have Y : Sy _ _ hv4 [_, _, _, _, _, _, _] := Y.junk _
    clear_value hv4
    intro hv5
    have Y : Sy _ _ hv5 [_, _, _, _, _, _, _] := ((((Y.stJ 6 rfl _ _).stJ 6 rfl _ _).stJ 6 rfl _ _).stJ 6 rfl _ _)
    clear_value hv5
    refine callX_sy (T _ _ _ _ (Y.pick [0] rfl).hp) (fun _ _ ⟨_, _, _, _, _, _, p, _⟩ => p.fr) (allc (fun h => by cases h) (allc (fun h => by cases h) alln)) ?_
    rintro v3 hv6 ⟨raA5, raL5, raC5, ra_5, rb2, rc, PP, rfl, T⟩
    have Y : Sy _ _ hv6 [_, _, _, _, _, _, _, _] := Y.callV PP ⟨rfl, trivial⟩
    clear PP
    obtain rfl := Y.lenS 7 rfl
    refine ⟨_, _, _, rb2, rc, rfl, ?_⟩
    refine cnd_imp T (fun T => ?_) (fun T => ?_)
    · exact ⟨_, Y.pick [] rfl, rfl, T⟩
    · obtain ⟨Jv, T0, T1⟩ := T
      obtain ⟨B, hB, _⟩ := Y.cut [] [0, 1, 2, 3, 4, 5, 6, 7] rfl
      intro K
      have hK : ∀  (hv7 : Heap), (Sy h [] hv7 ([] ++ B) ∧ Jv) → K hv7 := by
        subst hB
        clear T0 Y
        rintro hv7 ⟨Y, T⟩
        replace T := T1 T
        have Y : Sy _ _ _ [_, _, _, _, _, _, _, _] := Y
        unfold K
        exact ⟨_, Y.pick [] rfl, rfl, T⟩
      subst hB
      replace T := T0
      clear T0 T1
      refine cnd_imp T (fun T => ?_) (fun T => ?_)
      · exact hK _ ⟨Y.pick [0, 1, 2, 3, 4, 5, 6, 7] rfl, T⟩
      · refine cnd_imp T (fun T => ?_) (fun T => ?_)
        · exact hK _ ⟨Y.pick [0, 1, 2, 3, 4, 5, 6, 7] rfl, T⟩
        · obtain ⟨q, q_2, T⟩ := T
          obtain ⟨b_2, hb, ho, ra_6, hx⟩ := Y.atS 4 rfl q q_2
          refine ⟨b_2, 0, hb, q, q_2, ?_⟩
          replace T := T ra_6 hx
          refine ⟨_, Y.cellS 4 rfl hb (t := 0) hx rfl, ?_⟩
          refine cnd_imp T (fun T => ?_) (fun T => ?_)
          · exact hK _ ⟨Y.pick [0, 1, 2, 3, 4, 5, 6, 7] rfl, T⟩
          · obtain ⟨q_3, q_4, T⟩ := T
            obtain ⟨b_3, hb_2, ho_2, ra_7, hx_2⟩ := Y.atS 2 rfl q_3 q_4
            refine ⟨b_3, 0, hb_2, q_3, q_4, ?_⟩
            replace T := T ra_7 hx_2
            refine ⟨_, Y.cellS 2 rfl hb_2 (t := 0) hx_2 rfl, ?_⟩
            refine cnd_imp T (fun T => ?_) (fun T => ?_)
            · exact ⟨_, Y.pick [] rfl, rfl, T⟩
            · obtain ⟨Iv, m, T0, T1⟩ := T
              obtain ⟨B_2, hB_2, YB⟩ := Y.cut [] [0, 1, 2, 3, 4, 5, 6, 7] rfl
              obtain ⟨JJ, hJJ⟩ : ∃ JJ : Nat → List Value → Heap → Prop, JJ = (fun k lz h' => ∃ (i : Int), lz = [.int .i64 i] ∧ Sy h [] h' ([] ++ B_2) ∧ Iv i ∧ m i = k) := ⟨_, rfl⟩
              refine ⟨fun lz h' => ∃ k, JJ k lz h', Lm JJ, ?_, ?_⟩
              · subst hJJ hB_2
                exact ⟨_, _, rfl, YB, T0, rfl⟩
              · clear YB T0 Y
                intro i hv8 hI
                obtain ⟨k, hI, hm⟩ := loopIn hI
                subst hJJ hB_2
                obtain ⟨i, e, Y, T, rfl⟩ := hI
                cases e
                replace T := T1 i T
                have Y : Sy _ _ _ [_, _, _, _, _, _, _, _] := Y
                refine cnd_imp T (fun T => ?_) (fun T => ?_)
                · have Y0 := Y
                  have F : Fr [] hv8 hv8 := Fr.refl _ _
                  obtain ⟨q_5, q_6, T⟩ := T
                  obtain ⟨b_4, o_2, hb_3, hr, g_2, hx_3⟩ := Y0.atV 0 rfl q_5 q_6
                  refine ⟨b_4, o_2, hb_3, q_5, q_6, ?_⟩
                  replace T := T g_2 hx_3
                  refine ⟨_, Y0.cellV 0 rfl hb_3 (t := 0) hx_3 rfl, ?_⟩
                  obtain ⟨q_7, q_8, T⟩ := T
                  obtain ⟨b_5, hb_4, ho_3, ra_8, hx_4⟩ := Y0.atS 4 rfl q_7 q_8
                  refine ⟨b_5, 0, hb_4, q_7, q_8, ?_⟩
                  replace T := T ra_8 hx_4
                  refine ⟨_, Y0.cellS 4 rfl hb_4 (t := 0) hx_4 rfl, ?_⟩
                  refine ⟨b_4, o_2, hb_3, q_5, q_6, ?_⟩
                  refine ⟨_, Y0.cellV 0 rfl hb_3 (t := 1) hx_3 rfl, ?_⟩
                  obtain ⟨q_9, q_10, T⟩ := T
                  obtain ⟨b_6, hb_5, ho_4, ra_9, hx_5⟩ := Y0.atS 4 rfl q_9 q_10
                  refine ⟨b_6, 0, hb_5, q_9, q_10, ?_⟩
                  replace T := T ra_9 hx_5
                  refine ⟨_, Y0.cellS 4 rfl hb_5 (t := 0) hx_5 rfl, ?_⟩
                  obtain ⟨Jv_2, T0, T1⟩ := T
                  obtain ⟨B_3, hB_3, _⟩ := Y.cut [] [0, 1, 2, 3, 4, 5, 6, 7] rfl
                  intro K2
                  have hK2 : ∀  (hv9 : Heap), (Sy h [] hv9 ([] ++ B_3) ∧ Jv_2) → K2 hv9 := by
                    subst hB_3
                    clear T0 Y
                    rintro hv9 ⟨Y, T⟩
                    replace T := T1 T
                    have Y : Sy _ _ _ [_, _, _, _, _, _, _, _] := Y
                    unfold K2
                    exact ⟨_, Y.pick [] rfl, rfl, T⟩
                  subst hB_3
                  replace T := T0
                  clear T0 T1
                  refine cnd_imp T (fun T => ?_) (fun T => ?_)
                  · exact hK2 _ ⟨Y.pick [0, 1, 2, 3, 4, 5, 6, 7] rfl, T⟩
                  · refine cnd_imp T (fun T => ?_) (fun T => ?_)
                    · exact hK2 _ ⟨Y.pick [0, 1, 2, 3, 4, 5, 6, 7] rfl, T⟩
                    · refine cnd_imp T (fun T => ?_) (fun T => ?_)
                      · exact ⟨_, Y.pick [] rfl, rfl, T⟩
                      · exact loopBack hm ⟨_, rfl, Y.pick [0, 1, 2, 3, 4, 5, 6, 7] rfl, T.1, rfl⟩ T.2
                · obtain ⟨Iv2, m2, T0, T1⟩ := T
                  obtain ⟨B_4, hB_4, YB⟩ := Y.cut [] [0, 1, 2, 3, 4, 5, 6, 7] rfl
                  obtain ⟨JJ_2, hJJ_2⟩ : ∃ JJ_2 : Nat → List Value → Heap → Prop, JJ_2 = (fun k_2 lz h' => ∃ (v4 : Int), lz = [.int .i64 v4] ∧ Sy h [] h' ([] ++ B_4) ∧ Iv2 v4 ∧ m2 v4 = k_2) := ⟨_, rfl⟩
                  refine ⟨fun lz h' => ∃ k_2, JJ_2 k_2 lz h', Lm JJ_2, ?_, ?_⟩
                  · subst hJJ_2 hB_4
                    exact ⟨_, _, rfl, YB, T0, rfl⟩
                  · clear YB T0 Y
                    intro v4 hv10 hI
                    obtain ⟨k_2, hI, hm_2⟩ := loopIn hI
                    subst hJJ_2 hB_4
                    obtain ⟨v4, e, Y, T, rfl⟩ := hI
                    cases e
                    replace T := T1 v4 T
                    have Y : Sy _ _ _ [_, _, _, _, _, _, _, _] := Y
                    refine cnd_imp T (fun T => ?_) (fun T => ?_)
                    · obtain ⟨Jv_3, T0, T1⟩ := T
                      obtain ⟨B_5, hB_5, _⟩ := Y.cut [] [0, 1, 2, 3, 4, 5, 6, 7] rfl
                      intro K4
                      have hK4 : ∀  (hv14 : Heap), (Sy h [] hv14 ([] ++ B_5) ∧ Jv_3) → K4 hv14 := by
                        subst hB_5
                        clear T0 Y
                        rintro hv14 ⟨Y, T⟩
                        replace T := T1 T
                        have Y : Sy _ _ _ [_, _, _, _, _, _, _, _] := Y
                        unfold K4
                        exact loopBack hm_2 ⟨_, rfl, Y.pick [0, 1, 2, 3, 4, 5, 6, 7] rfl, T.1, rfl⟩ T.2
                      subst hB_5
                      replace T := T0
                      clear T0 T1
                      have Y0 := Y
                      have F : Fr [] hv10 hv10 := Fr.refl _ _
                      obtain ⟨q_11, q_12, T⟩ := T
                      obtain ⟨b_7, hb_6, ho_5, ra_10, hx_6⟩ := Y0.atS 4 rfl q_11 q_12
                      refine ⟨b_7, 0, hb_6, q_11, q_12, ?_⟩
                      replace T := T ra_10 hx_6
                      refine ⟨_, Y0.cellS 4 rfl hb_6 (t := 0) hx_6 rfl, ?_⟩
                      obtain ⟨q_13, q_14, T⟩ := T
                      obtain ⟨b_8, hb_7, ho_6, ra_11, hx_7⟩ := Y0.atS 7 rfl q_13 q_14
                      refine ⟨b_8, 0, hb_7, q_13, q_14, ?_⟩
                      replace T := T ra_11 hx_7
                      refine ⟨_, Y0.cellS 7 rfl hb_7 (t := 0) hx_7 rfl, ?_⟩
                      obtain ⟨q_15, q_16, T⟩ := T
                      obtain ⟨b_9, hb_8, ho_7, ra_12, hx_8⟩ := Y0.atS 7 rfl q_15 q_16
                      refine ⟨b_9, 0, hb_8, q_15, q_16, ?_⟩
                      replace T := T ra_12 hx_8
                      refine ⟨_, Y0.cellS 7 rfl hb_8 (t := 0) hx_8 rfl, ?_⟩
                      refine cnd_imp T (fun T => ?_) (fun T => ?_)
                      · exact ⟨_, Y.pick [] rfl, rfl, T⟩
                      · obtain ⟨Jv_4, T0, T1⟩ := T
                        obtain ⟨B_6, hB_6, _⟩ := Y.cut [] [0, 1, 2, 3, 4, 5, 6, 7] rfl
                        intro K3
                        have hK3 : ∀  (hv13 : Heap), (Sy h [] hv13 ([] ++ B_6) ∧ Jv_4) → K3 hv13 := by
                          subst hB_6
                          clear T0 Y
                          rintro hv13 ⟨Y, T⟩
                          replace T := T1 T
                          have Y : Sy _ _ _ [_, _, _, _, _, _, _, _] := Y
                          unfold K3
                          exact hK4 _ ⟨Y.pick [0, 1, 2, 3, 4, 5, 6, 7] rfl, T⟩
                        subst hB_6
                        replace T := T0
                        clear T0 T1
                        have Y0 := Y
                        have F : Fr [] hv10 hv10 := Fr.refl _ _
                        refine cnd_imp T (fun T => ?_) (fun T => ?_)
                        · refine ⟨b_7, 0, hb_6, q_11, q_12, ?_⟩
                          refine ⟨_, Y0.cellS 4 rfl hb_6 (t := 0) hx_6 rfl, ?_⟩
                          refine cnd_imp T (fun T => ?_) (fun T => ?_)
                          · obtain ⟨q_17, q_18, T⟩ := T
                            obtain ⟨b_10, hb_9, ho_8, ra_13, hx_9⟩ := Y0.atS 3 rfl q_17 q_18
                            refine ⟨b_10, 0, hb_9, q_17, q_18, ?_⟩
                            replace T := T ra_13 hx_9
                            refine ⟨_, Y0.cellS 3 rfl hb_9 (t := 0) hx_9 rfl, ?_⟩
                            refine callX_sy (T _ _ _ _ (Y.pick [0] rfl).hp) (fun _ _ ⟨_, p, _⟩ => p.fr) (allc (fun h => by cases h) (allc (fun h => by cases h) alln)) ?_
                            rintro v5 hv11 ⟨r2, PP, rfl, T⟩
                            have F : Fr _ _ hv11 := F.trans PP.fr.nil
                            have fshv11 := F.size
                            have Y : Sy _ _ hv11 [_, _, _, _, _, _, _, _] := Y.gr PP.fr
                            clear PP
                            refine ⟨r2, rfl, ?_⟩
                            refine ⟨F, ?_⟩
                            refine cnd_imp T (fun T => ?_) (fun T => ?_)
                            · refine ⟨F, ?_⟩
                              exact ⟨_, Y.pick [] rfl, rfl, T⟩
                            · refine ⟨b_10, 0, hb_9, q_17, q_18, ?_⟩
                              refine ⟨_, Y0.cellS 3 rfl hb_9 (t := 0) hx_9 rfl, ?_⟩
                              refine ⟨b_7, 0, hb_6, q_11, q_12, ?_⟩
                              refine ⟨_, Y0.cellS 4 rfl hb_6 (t := 0) hx_6 rfl, ?_⟩
                              refine callX_sy (T _ _ _ _ (Y.pick [0] rfl).hp) (fun _ _ ⟨_, p, _⟩ => p.fr) (allc (fun h => by cases h) (allc (fun h => by cases h) alln)) ?_
                              rintro v6 hv12 ⟨r3, PP, rfl, T⟩
                              have F : Fr _ _ hv12 := F.trans PP.fr.nil
                              have fshv12 := F.size
                              have Y : Sy _ _ hv12 [_, _, _, _, _, _, _, _] := Y.gr PP.fr
                              clear PP
                              refine ⟨r3, rfl, ?_⟩
                              refine ⟨F, ?_⟩
                              obtain ⟨q_19, q_20, T⟩ := T
                              obtain ⟨b_11, hb_10, ho_9, ra_14, hx_10⟩ := Y0.atS 4 rfl q_19 q_20
                              refine ⟨b_11, 0, hb_10, q_19, q_20, ?_⟩
                              replace T := T ra_14 hx_10
                              refine ⟨_, Y0.cellS 4 rfl hb_10 (t := 0) hx_10 rfl, ?_⟩
                              refine cnd_imp T (fun T => ?_) (fun T => ?_)
                              · exact ⟨_, Y.pick [] rfl, rfl, T⟩
                              · exact hK4 _ ⟨Y.pick [0, 1, 2, 3, 4, 5, 6, 7] rfl, T⟩
                          · refine ⟨F, ?_⟩
                            refine ⟨F, ?_⟩
                            exact hK3 _ ⟨Y.pick [0, 1, 2, 3, 4, 5, 6, 7] rfl, T⟩
                        · refine ⟨F, ?_⟩
                          refine ⟨F, ?_⟩
                          exact hK3 _ ⟨Y.pick [0, 1, 2, 3, 4, 5, 6, 7] rfl, T⟩
                    · exact ⟨_, Y.pick [] rfl, rfl, T⟩

/-- tracery/tracerylaw6.above -/
def S89 (g : Int) (gA : Option Addr) (gL gC : Nat) (tA : Option Addr) (tL tC : Nat) (tA2 : Option Addr) (tL2 tC2 : Nat) (tA3 : Option Addr) (tL3 tC3 : Nat) (tA4 : Option Addr) (tL4 tC4 : Nat) (a : Int) (b : Int) (h : Heap) (R : Value → Heap → Prop) : Prop :=
  let hv : Heap := h.push (.cells #[.int .i64 g, .slice gA gL gC] 26)
  let hv2 : Heap := hv.push (.cells #[.slice tA tL tC, .slice tA2 tL2 tC2, .slice tA3 tL3 tC3, .slice tA4 tL4 tC4] 113)
  ∃ (Iv : List Value → Heap → Prop) (m : List Value → Heap → Nat), Iv [.int .i64 b, .int .i64 0] hv2 ∧ -- loop 0: ['b', 'i']
  ∀ b2 : Int, ∀ i : Int, ∀ hv3, Iv [.int .i64 b2, .int .i64 i] hv3 →
  cnd (decide (i ≤ g))
    (cnd (a == b2)
      (R (.bool true) hv3)
      (∃ b3 o, tA2 = some ⟨b3, o, none⟩ ∧ 0 ≤ b2 ∧ b2 < (tL2 : Nat) ∧ ∃ x : Int, hcell hv3 b3 (o + (Int.toNat b2) * 1) = some (.int .i64 x) ∧ cnd (decide (x < (0 : Int)))
        (R (.bool false) hv3)
        (∃ b4 o2, tA2 = some ⟨b4, o2, none⟩ ∧ 0 ≤ b2 ∧ b2 < (tL2 : Nat) ∧ ∃ x2 : Int, hcell hv3 b4 (o2 + (Int.toNat b2) * 1) = some (.int .i64 x2) ∧ callX Try.prog 88 #[.agg #[.int .i64 g, .slice gA gL gC], .int .i64 x2] hv3 [h.size, hv.size] fun v hv4 =>
        ∃ r : Int, v = .int .i64 r ∧
        Fr [] hv3 hv4 ∧
        Iv [.int .i64 r, .int .i64 (IntKind.i64.wrap (i + (1 : Int)))] hv4 ∧ m [.int .i64 r, .int .i64 (IntKind.i64.wrap (i + (1 : Int)))] hv4 < m [.int .i64 b2, .int .i64 i] hv3)))
    (R (.bool false) hv3)

theorem calls89 {h : Heap} {R : Value → Heap → Prop} (g : Int) (gA : Option Addr) (gL gC : Nat) (tA : Option Addr) (tL tC : Nat) (tA2 : Option Addr) (tL2 tC2 : Nat) (tA3 : Option Addr) (tL3 tC3 : Nat) (tA4 : Option Addr) (tL4 tC4 : Nat) (a : Int) (b : Int) (H : S89 g gA gL gC tA tL tC tA2 tL2 tC2 tA3 tL3 tC3 tA4 tL4 tC4 a b h R) : CallsH Try.prog 89 #[.agg #[.int .i64 g, .slice gA gL gC], .agg #[.slice tA tL tC, .slice tA2 tL2 tC2, .slice tA3 tL3 tC3, .slice tA4 tL4 tC4], .int .i64 a, .int .i64 b] h R := by
  have e : S89 g gA gL gC tA tL tC tA2 tL2 tC2 tA3 tL3 tC3 tA4 tL4 tC4 a b h R = FX (envX [4, 5] 32) { loops := [(0, ⟨[2, 4, 5], [3, 9], [4, 5], []⟩)], joins := [], blocks := [], draws := [(8, ⟨8, false⟩)] } Try.f89 (Try.f89.body.getD .skip) [.agg #[.int .i64 g, .slice gA gL gC], .agg #[.slice tA tL tC, .slice tA2 tL2 tC2, .slice tA3 tL3 tC3, .slice tA4 tL4 tC4], .int .i64 a, .int .i64 b] h R := by kernel_rfl
  exact calls_of_FX (envX_ok _ _) Try.func89 (by kernel_rfl) (by kernel_rfl) (by kernel_rfl) (e ▸ H)

/-- tracery/tracerylaw6.above -/
def Ok89 (g : Int) (edgesV : List (Int × Int)) (orderV : List Int) (byV : List Int) (farV : List Int) (lowV : List Int) (a : Int) (b : Int) (R : Bool → Prop) : Prop :=
  ∀ (h : Heap) (gA : Option Addr) (gL gC : Nat) (tA : Option Addr) (tL tC : Nat) (tA2 : Option Addr) (tL2 tC2 : Nat) (tA3 : Option Addr) (tL3 tC3 : Nat) (tA4 : Option Addr) (tL4 tC4 : Nat), Hp h [Ck.vw eP gA gL gC edgesV, Ck.vw eI tA tL tC orderV, Ck.vw eI tA2 tL2 tC2 byV, Ck.vw eI tA3 tL3 tC3 farV, Ck.vw eI tA4 tL4 tC4 lowV] → CallsH Try.prog 89 #[.agg #[.int .i64 g, .slice gA gL gC], .agg #[.slice tA tL tC, .slice tA2 tL2 tC2, .slice tA3 tL3 tC3, .slice tA4 tL4 tC4], .int .i64 a, .int .i64 b] h fun v h' => ∃ (rV : Bool), Sy h [] h' [] ∧ v = .bool rV ∧ R rV
theorem Ok89.mono {g edgesV orderV byV farV lowV a b} {R R' : Bool → Prop} (H : Ok89 g edgesV orderV byV farV lowV a b R) (kz : ∀ rV, R rV → R' rV) : Ok89 g edgesV orderV byV farV lowV a b R' :=
  fun h gA gL gC tA tL tC tA2 tL2 tC2 tA3 tL3 tC3 tA4 tL4 tC4 hp => (H h gA gL gC tA tL tC tA2 tL2 tC2 tA3 tL3 tC3 tA4 tL4 tC4 hp).mono fun _ _ ⟨rV, P, e, q⟩ => ⟨rV, P, e, kz _ q⟩

def T89 (g : Int) (edgesV : List (Int × Int)) (orderV : List Int) (byV : List Int) (farV : List Int) (lowV : List Int) (a : Int) (b : Int) (R : Bool → Prop) : Prop :=
  ∃ (Iv : Int → Int → Prop) (m : Int → Int → Nat), Iv b 0 ∧
  ∀ b2 : Int, ∀ i : Int, Iv b2 i →
  cnd (decide (i ≤ g))
    (cnd (a == b2)
      (R true)
      (0 ≤ b2 ∧ b2 < ((byV.length : Nat) : Int) ∧ ∀ t : Int, byV[(Int.toNat b2)]? = some t → cnd (decide (t < (0 : Int)))
        (R false)
        (0 ≤ b2 ∧ b2 < ((byV.length : Nat) : Int) ∧ ∀ t_2 : Int, byV[(Int.toNat b2)]? = some t_2 → Ok88 g edgesV t_2 (fun r =>
        Iv r (IntKind.i64.wrap (i + (1 : Int))) ∧ m r (IntKind.i64.wrap (i + (1 : Int))) < m b2 i))))
    (R false)

theorem ok89 {g edgesV orderV byV farV lowV a b} {R : Bool → Prop} (T : T89 g edgesV orderV byV farV lowV a b R) : Ok89 g edgesV orderV byV farV lowV a b R := by
  intro h gA gL gC tA tL tC tA2 tL2 tC2 tA3 tL3 tC3 tA4 tL4 tC4 H
  have Y : Sy h [] h _ := Sy.startM H rfl
  obtain rfl := Y.lenV 0 rfl
  obtain rfl := Y.lenV 1 rfl
  obtain rfl := Y.lenV 2 rfl
  obtain rfl := Y.lenV 3 rfl
  obtain rfl := Y.lenV 4 rfl
  apply calls89
  unfold S89
  unfold T89 at T
  intro hv
  have Y : Sy _ _ hv [_, _, _, _, _, _] := Y.junk _
  clear_value hv
  intro hv2
  have Y : Sy _ _ hv2 [_, _, _, _, _, _, _] := Y.junk _
  clear_value hv2
  obtain ⟨Iv, m, T0, T1⟩ := T
  obtain ⟨B, hB, YB⟩ := Y.cut [] [0, 1, 2, 3, 4, 5, 6] rfl
  obtain ⟨JJ, hJJ⟩ : ∃ JJ : Nat → List Value → Heap → Prop, JJ = (fun k lz h' => ∃ (b2 : Int) (i : Int), lz = [.int .i64 b2, .int .i64 i] ∧ Sy h [] h' ([] ++ B) ∧ Iv b2 i ∧ m b2 i = k) := ⟨_, rfl⟩
  refine ⟨fun lz h' => ∃ k, JJ k lz h', Lm JJ, ?_, ?_⟩
  · subst hJJ hB
    exact ⟨_, _, _, rfl, YB, T0, rfl⟩
  · clear YB T0 Y
    intro b2 i hv3 hI
    obtain ⟨k, hI, hm⟩ := loopIn hI
    subst hJJ hB
    obtain ⟨b2, i, e, Y, T, rfl⟩ := hI
    cases e
    replace T := T1 b2 i T
    have Y : Sy _ _ _ [_, _, _, _, _, _, _] := Y
    refine cnd_imp T (fun T => ?_) (fun T => ?_)
    · refine cnd_imp T (fun T => ?_) (fun T => ?_)
      · exact ⟨_, Y.pick [] rfl, rfl, T⟩
      · obtain ⟨q, q_2, T⟩ := T
        obtain ⟨b_2, o_2, hb, hr, t, hx⟩ := Y.atV 2 rfl q q_2
        refine ⟨b_2, o_2, hb, q, q_2, ?_⟩
        replace T := T t hx
        refine ⟨_, Y.cellV 2 rfl hb (t := 0) hx rfl, ?_⟩
        refine cnd_imp T (fun T => ?_) (fun T => ?_)
        · exact ⟨_, Y.pick [] rfl, rfl, T⟩
        · have Y0 := Y
          have F : Fr [] hv3 hv3 := Fr.refl _ _
          obtain ⟨q_3, q_4, T⟩ := T
          obtain ⟨b_3, o_3, hb_2, hr_2, t_2, hx_2⟩ := Y0.atV 2 rfl q_3 q_4
          refine ⟨b_3, o_3, hb_2, q_3, q_4, ?_⟩
          replace T := T t_2 hx_2
          refine ⟨_, Y0.cellV 2 rfl hb_2 (t := 0) hx_2 rfl, ?_⟩
          refine callX_sy (T _ _ _ _ (Y.pick [0] rfl).hp) (fun _ _ ⟨_, p, _⟩ => p.fr) (allc (fun h => by cases h) (allc (fun h => by cases h) alln)) ?_
          rintro v hv4 ⟨r, PP, rfl, T⟩
          have F : Fr _ _ hv4 := F.trans PP.fr.nil
          have fshv4 := F.size
          have Y : Sy _ _ hv4 [_, _, _, _, _, _, _] := Y.gr PP.fr
          clear PP
          refine ⟨r, rfl, ?_⟩
          refine ⟨F, ?_⟩
          exact loopBack hm ⟨_, _, rfl, Y.pick [0, 1, 2, 3, 4, 5, 6] rfl, T.1, rfl⟩ T.2
    · exact ⟨_, Y.pick [] rfl, rfl, T⟩

/-- tracery/tracerylaw6.WalkDeep -/
def S17 (g : Int) (gA : Option Addr) (gL gC : Nat) (s : Int) (h : Heap) (R : Value → Heap → Prop) : Prop :=
  let hv : Heap := h.push (.cells #[.int .i64 g, .slice gA gL gC] 26)
  callX Try.prog 80 #[] hv [h.size] fun v hv2 =>
  ∃ r : Bool, v = .bool r ∧
  cnd (!r)
    (R (.bool false) hv2)
    (callX Try.prog 82 #[.agg #[.int .i64 g, .slice gA gL gC], .int .i64 s] hv2 [h.size] fun v2 hv3 =>
    ∃ (raA : Option Addr) (raL raC : Nat), ∃ (raA2 : Option Addr) (raL2 raC2 : Nat), ∃ (raA3 : Option Addr) (raL3 raC3 : Nat), ∃ (raA4 : Option Addr) (raL4 raC4 : Nat), ∃ rb : Int, v2 = .tuple #[.agg #[.slice raA raL raC, .slice raA2 raL2 raC2, .slice raA3 raL3 raC3, .slice raA4 raL4 raC4], .int .i64 rb] ∧
    let hv4 : Heap := hv3.push (.cells #[.slice none 0 0, .slice none 0 0, .slice none 0 0, .slice none 0 0] 113)
    let hv5 : Heap := hset (hset (hset (hset hv4 hv3.size 0 (.slice raA raL raC)) hv3.size (0 + 1) (.slice raA2 raL2 raC2)) hv3.size ((0 + 1) + 1) (.slice raA3 raL3 raC3)) hv3.size (((0 + 1) + 1) + 1) (.slice raA4 raL4 raC4)
    let K := fun (hv6 : Heap) =>
      (cnd (rb == (0 : Int))
        (R (.bool true) hv6)
        (R (.bool (((raL : Nat) : Int) == (0 : Int))) hv6))
    cnd (rb != (0 : Int))
      (K hv5)
      (cnd (decide (g > (200 : Int)))
        (K hv5)
        (cnd (decide (((gL : Nat) : Int) > (300 : Int)))
          (cnd (rb == (0 : Int))
            (R (.bool true) hv5)
            (R (.bool (((raL : Nat) : Int) == (0 : Int))) hv5))
          (0 ≤ g ∧ g ≤ g ∧ ((8 : Nat) : Int) * g ≤ 281474976710656 ∧ g ≤ 9223372036854775807 ∧ let hv7 : Heap := hv5.push (.cells (madeCells (List.toArray [.int .i64 0]) (Int.toNat g * 1)) 3)
          ∃ (Iv : List Value → Heap → Prop) (m : List Value → Heap → Nat), Iv [.int .i64 0] hv7 ∧ -- loop 0: ['i']
          ∀ i : Int, ∀ hv8, Iv [.int .i64 i] hv8 →
          cnd (decide (i < ((raL : Nat) : Int)))
            (∃ b o, raA = some ⟨b, o, none⟩ ∧ 0 ≤ i ∧ i < (raL : Nat) ∧ ∃ x : Int, hcell hv8 b (o + (Int.toNat i) * 1) = some (.int .i64 x) ∧ ∃ b2 o2, (some (⟨hv5.size, 0, none⟩ : Addr)) = some ⟨b2, o2, none⟩ ∧ 0 ≤ x ∧ x < ((Int.toNat g) : Nat) ∧ b2 ≠ h.size ∧ b2 ≠ hv3.size ∧ (∃ u, hcell hv8 b2 (o2 + (Int.toNat x) * 1) = some u) ∧ hfree hv8 b2 (o2 + (Int.toNat x) * 1) = true ∧ let hv9 : Heap := hset hv8 b2 (o2 + (Int.toNat x) * 1) (.int .i64 (IntKind.i64.wrap (i + (1 : Int))))
            Iv [.int .i64 (IntKind.i64.wrap (i + (1 : Int)))] hv9 ∧ m [.int .i64 (IntKind.i64.wrap (i + (1 : Int)))] hv9 < m [.int .i64 i] hv8)
            (∃ (Iv2 : List Value → Heap → Prop) (m2 : List Value → Heap → Nat), Iv2 [.int .i64 0] hv8 ∧ -- loop 2: ['i']
            ∀ i2 : Int, ∀ hv10, Iv2 [.int .i64 i2] hv10 →
            cnd (decide (i2 < ((gL : Nat) : Int)))
              (∃ Jv : List Value → Heap → Prop, -- block 3 []
              ( ∃ b3 o3, gA = some ⟨b3, o3, none⟩ ∧ 0 ≤ i2 ∧ i2 < (gL : Nat) ∧ ∃ x2 : Int, hcell hv10 b3 ((o3 + (Int.toNat i2) * 2) + 0) = some (.int .i64 x2) ∧ ∃ b4 o4, gA = some ⟨b4, o4, none⟩ ∧ 0 ≤ i2 ∧ i2 < (gL : Nat) ∧ ∃ x3 : Int, hcell hv10 b4 ((o4 + (Int.toNat i2) * 2) + 1) = some (.int .i64 x3) ∧ let K2 := fun (hv11 : Heap) =>
                 (cnd (x2 == x3)
                   (Jv [] hv11)
                   (callX Try.prog 89 #[.agg #[.int .i64 g, .slice gA gL gC], .agg #[.slice raA raL raC, .slice raA2 raL2 raC2, .slice raA3 raL3 raC3, .slice raA4 raL4 raC4], .int .i64 x2, .int .i64 x3] hv11 [h.size, hv3.size] fun v3 hv12 =>
                   ∃ r2 : Bool, v3 = .bool r2 ∧
                   cnd (!r2)
                     (callX Try.prog 89 #[.agg #[.int .i64 g, .slice gA gL gC], .agg #[.slice raA raL raC, .slice raA2 raL2 raC2, .slice raA3 raL3 raC3, .slice raA4 raL4 raC4], .int .i64 x3, .int .i64 x2] hv12 [h.size, hv3.size] fun v4 hv13 =>
                     ∃ r3 : Bool, v4 = .bool r3 ∧
                     cnd (!r3)
                       (R (.bool false) hv13)
                       (Jv [] hv13))
                     (Jv [] hv12)))
               ∃ b5 o5, (some (⟨hv5.size, 0, none⟩ : Addr)) = some ⟨b5, o5, none⟩ ∧ 0 ≤ x2 ∧ x2 < ((Int.toNat g) : Nat) ∧ ∃ x4 : Int, hcell hv10 b5 (o5 + (Int.toNat x2) * 1) = some (.int .i64 x4) ∧ cnd (x4 == (0 : Int))
                 (∃ b6 o6, (some (⟨hv5.size, 0, none⟩ : Addr)) = some ⟨b6, o6, none⟩ ∧ 0 ≤ x3 ∧ x3 < ((Int.toNat g) : Nat) ∧ ∃ x5 : Int, hcell hv10 b6 (o6 + (Int.toNat x3) * 1) = some (.int .i64 x5) ∧ cnd (x5 == (0 : Int))
                   (Jv [] hv10)
                   (K2 hv10))
                 (K2 hv10)) ∧
              ∀ hv14, Jv [] hv14 →
              Iv2 [.int .i64 (IntKind.i64.wrap (i2 + (1 : Int)))] hv14 ∧ m2 [.int .i64 (IntKind.i64.wrap (i2 + (1 : Int)))] hv14 < m2 [.int .i64 i2] hv10)
              (∃ (Iv3 : List Value → Heap → Prop) (m3 : List Value → Heap → Nat), Iv3 [.int .i64 1] hv10 ∧ -- loop 4: ['i']
              ∀ i3 : Int, ∀ hv15, Iv3 [.int .i64 i3] hv15 →
              cnd (decide (i3 < ((raL : Nat) : Int)))
                (∃ b7 o7, raA = some ⟨b7, o7, none⟩ ∧ 0 ≤ i3 ∧ i3 < (raL : Nat) ∧ ∃ x6 : Int, hcell hv15 b7 (o7 + (Int.toNat i3) * 1) = some (.int .i64 x6) ∧ ∃ b8 o8, raA4 = some ⟨b8, o8, none⟩ ∧ 0 ≤ x6 ∧ x6 < (raL4 : Nat) ∧ ∃ x7 : Int, hcell hv15 b8 (o8 + (Int.toNat x6) * 1) = some (.int .i64 x7) ∧ cnd (decide (x7 > i3))
                  (Fr [] hv15 hv15 ∧
                  R (.bool false) hv15)
                  (∃ b9 o9, raA3 = some ⟨b9, o9, none⟩ ∧ 0 ≤ x6 ∧ x6 < (raL3 : Nat) ∧ ∃ x8 : Int, hcell hv15 b9 (o9 + (Int.toNat x6) * 1) = some (.int .i64 x8) ∧ ∃ b10 o10, raA2 = some ⟨b10, o10, none⟩ ∧ 0 ≤ x6 ∧ x6 < (raL2 : Nat) ∧ ∃ x9 : Int, hcell hv15 b10 (o10 + (Int.toNat x6) * 1) = some (.int .i64 x9) ∧ callX Try.prog 88 #[.agg #[.int .i64 g, .slice gA gL gC], .int .i64 x9] hv15 [h.size, hv3.size] fun v5 hv16 =>
                  ∃ r4 : Int, v5 = .int .i64 r4 ∧
                  Fr [] hv15 hv16 ∧
                  ∃ b11 o11, raA3 = some ⟨b11, o11, none⟩ ∧ 0 ≤ r4 ∧ r4 < (raL3 : Nat) ∧ ∃ x10 : Int, hcell hv15 b11 (o11 + (Int.toNat r4) * 1) = some (.int .i64 x10) ∧ cnd (x8 != (IntKind.i64.wrap (x10 + (1 : Int))))
                    (R (.bool false) hv16)
                    (Iv3 [.int .i64 (IntKind.i64.wrap (i3 + (1 : Int)))] hv16 ∧ m3 [.int .i64 (IntKind.i64.wrap (i3 + (1 : Int)))] hv16 < m3 [.int .i64 i3] hv15)))
                (R (.bool true) hv15)))))))

theorem calls17 {h : Heap} {R : Value → Heap → Prop} (g : Int) (gA : Option Addr) (gL gC : Nat) (s : Int) (H : S17 g gA gL gC s h R) : CallsH Try.prog 17 #[.agg #[.int .i64 g, .slice gA gL gC], .int .i64 s] h R := by
  have e : S17 g gA gL gC s h R = FX (envX [2, 5] 151) { loops := [(0, ⟨[2, 5, 7], [8], [2, 5], []⟩), (2, ⟨[2, 5, 7], [9], [2, 5], []⟩), (4, ⟨[2, 5], [12], [2, 5], []⟩)], joins := [], blocks := [(3, ⟨[2, 5, 7, 9], [], [2, 5], []⟩)], draws := [(14, ⟨14, false⟩), (22, ⟨27, false⟩)] } Try.f17 (Try.f17.body.getD .skip) [.agg #[.int .i64 g, .slice gA gL gC], .int .i64 s] h R := by kernel_rfl
  exact calls_of_FX (envX_ok _ _) Try.func17 (by kernel_rfl) (by kernel_rfl) (by kernel_rfl) (e ▸ H)

/-- tracery/tracerylaw6.WalkDeep -/
def Ok17 (g : Int) (edgesV : List (Int × Int)) (s : Int) (R : Bool → Prop) : Prop :=
  ∀ (h : Heap) (gA : Option Addr) (gL gC : Nat), Hp h [Ck.vw eP gA gL gC edgesV] → CallsH Try.prog 17 #[.agg #[.int .i64 g, .slice gA gL gC], .int .i64 s] h fun v h' => ∃ (rV : Bool), Sy h [] h' [] ∧ v = .bool rV ∧ R rV
theorem Ok17.mono {g edgesV s} {R R' : Bool → Prop} (H : Ok17 g edgesV s R) (kz : ∀ rV, R rV → R' rV) : Ok17 g edgesV s R' :=
  fun h gA gL gC hp => (H h gA gL gC hp).mono fun _ _ ⟨rV, P, e, q⟩ => ⟨rV, P, e, kz _ q⟩

def T17 (g : Int) (edgesV : List (Int × Int)) (s : Int) (R : Bool → Prop) : Prop :=
  Ok80 (fun r =>
  cnd (!r)
    (R false)
    (Ok82 g edgesV s (fun ra ra_2 ra_3 ra_4 rb =>
    ∃ Jv_2 : Prop,
    ( cnd (rb != (0 : Int))
       (Jv_2)
       (cnd (decide (g > (200 : Int)))
         (Jv_2)
         (cnd (decide (((edgesV.length : Nat) : Int) > (300 : Int)))
           (cnd (rb == (0 : Int))
             (R true)
             (R (((ra.length : Nat) : Int) == (0 : Int))))
           (0 ≤ g ∧ g ≤ 1000000000000 ∧ ∃ (Iv : Int → List Int → Prop) (m : Int → List Int → Nat), Iv 0 (List.replicate (Int.toNat g) (0 : Int)) ∧
           ∀ i : Int, ∀ x_2 : List Int, Iv i x_2 →
           cnd (decide (i < ((ra.length : Nat) : Int)))
             (0 ≤ i ∧ i < ((ra.length : Nat) : Int) ∧ ∀ ra_5 : Int, ra[(Int.toNat i)]? = some ra_5 → 0 ≤ ra_5 ∧ ra_5 < (((Int.toNat g) : Nat) : Int) ∧ Iv (IntKind.i64.wrap (i + (1 : Int))) (x_2.set (Int.toNat ra_5) (IntKind.i64.wrap (i + (1 : Int)))) ∧ m (IntKind.i64.wrap (i + (1 : Int))) (x_2.set (Int.toNat ra_5) (IntKind.i64.wrap (i + (1 : Int)))) < m i x_2)
             (∃ (Iv2 : Int → Prop) (m2 : Int → Nat), Iv2 0 ∧
             ∀ i2 : Int, Iv2 i2 →
             cnd (decide (i2 < ((edgesV.length : Nat) : Int)))
               (∃ Jv : Prop,
               ( 0 ≤ i2 ∧ i2 < ((edgesV.length : Nat) : Int) ∧ ∀ g_2 : (Int × Int), edgesV[(Int.toNat i2)]? = some g_2 → ∃ Jv_3 : Prop,
                ( 0 ≤ g_2.1 ∧ g_2.1 < (((Int.toNat g) : Nat) : Int) ∧ ∀ x_4 : Int, x_2[(Int.toNat g_2.1)]? = some x_4 → cnd (x_4 == (0 : Int))
                   (0 ≤ g_2.2 ∧ g_2.2 < (((Int.toNat g) : Nat) : Int) ∧ ∀ x_5 : Int, x_2[(Int.toNat g_2.2)]? = some x_5 → cnd (x_5 == (0 : Int))
                     (Jv)
                     (Jv_3))
                   (Jv_3)) ∧
                (Jv_3 →
                cnd (g_2.1 == g_2.2)
                  (Jv)
                  (Ok89 g edgesV ra ra_2 ra_3 ra_4 g_2.1 g_2.2 (fun r2 =>
                  cnd (!r2)
                    (Ok89 g edgesV ra ra_2 ra_3 ra_4 g_2.2 g_2.1 (fun r3 =>
                    cnd (!r3)
                      (R false)
                      (Jv)))
                    (Jv))))) ∧
               (Jv →
               Iv2 (IntKind.i64.wrap (i2 + (1 : Int))) ∧ m2 (IntKind.i64.wrap (i2 + (1 : Int))) < m2 i2))
               (∃ (Iv3 : Int → Prop) (m3 : Int → Nat), Iv3 1 ∧
               ∀ i3 : Int, Iv3 i3 →
               cnd (decide (i3 < ((ra.length : Nat) : Int)))
                 (0 ≤ i3 ∧ i3 < ((ra.length : Nat) : Int) ∧ ∀ ra_6 : Int, ra[(Int.toNat i3)]? = some ra_6 → 0 ≤ ra_6 ∧ ra_6 < ((ra_4.length : Nat) : Int) ∧ ∀ ra_7 : Int, ra_4[(Int.toNat ra_6)]? = some ra_7 → cnd (decide (ra_7 > i3))
                   (R false)
                   (0 ≤ ra_6 ∧ ra_6 < ((ra_3.length : Nat) : Int) ∧ ∀ ra_8 : Int, ra_3[(Int.toNat ra_6)]? = some ra_8 → 0 ≤ ra_6 ∧ ra_6 < ((ra_2.length : Nat) : Int) ∧ ∀ ra_9 : Int, ra_2[(Int.toNat ra_6)]? = some ra_9 → Ok88 g edgesV ra_9 (fun r4 =>
                   0 ≤ r4 ∧ r4 < ((ra_3.length : Nat) : Int) ∧ ∀ ra_10 : Int, ra_3[(Int.toNat r4)]? = some ra_10 → cnd (ra_8 != (IntKind.i64.wrap (ra_10 + (1 : Int))))
                     (R false)
                     (Iv3 (IntKind.i64.wrap (i3 + (1 : Int))) ∧ m3 (IntKind.i64.wrap (i3 + (1 : Int))) < m3 i3))))
                 (R true))))))) ∧
    (Jv_2 →
    cnd (rb == (0 : Int))
      (R true)
      (R (((ra.length : Nat) : Int) == (0 : Int)))))))

theorem ok17 {g edgesV s} {R : Bool → Prop} (T : T17 g edgesV s R) : Ok17 g edgesV s R := by
  intro h gA gL gC H
  have Y : Sy h [] h _ := Sy.startM H rfl
  obtain rfl := Y.lenV 0 rfl
  apply calls17
  unfold S17
  unfold T17 at T
  intro hv
  have Y : Sy _ _ hv [_, _] := Y.junk _
  clear_value hv
  refine callX_sy (T _ (Hp.nil _)) (fun _ _ ⟨_, p, _⟩ => p.fr) (allc (fun h => by cases h) alln) ?_
  rintro v hv2 ⟨r, PP, rfl, T⟩
  have Y : Sy _ _ hv2 [_, _] := Y.gr PP.fr
  clear PP
  refine ⟨r, rfl, ?_⟩
  refine cnd_imp T (fun T => ?_) (fun T => ?_)
  · exact ⟨_, Y.pick [] rfl, rfl, T⟩
  · refine callX_sy (T _ _ _ _ (Y.pick [0] rfl).hp) (fun _ _ ⟨_, _, _, _, _, _, _, _, _, _, _, _, _, _, _, _, _, p, _⟩ => p.fr) (allc (fun h => by cases h) alln) ?_
    rintro v2 hv3 ⟨raA, raL, raC, ra, raA2, raL2, raC2, ra_2, raA3, raL3, raC3, ra_3, raA4, raL4, raC4, ra_4, rb, PP, rfl, T⟩
    have Y : Sy _ _ hv3 [_, _, _, _, _, _] := Y.callV PP ⟨rfl, ⟨rfl, ⟨rfl, ⟨rfl, trivial⟩⟩⟩⟩
    clear PP
    obtain rfl := Y.lenS 2 rfl
    obtain rfl := Y.lenS 3 rfl
    obtain rfl := Y.lenS 4 rfl
    obtain rfl := Y.lenS 5 rfl
    refine ⟨_, _, _, _, _, _, _, _, _, _, _, _, rb, rfl, ?_⟩
    intro hv4
    have Y : Sy _ _ hv4 [_, _, _, _, _, _, _] := Y.junk _
    clear_value hv4
    intro hv5
    have Y : Sy _ _ hv5 [_, _, _, _, _, _, _] := ((((Y.stJ 6 rfl _ _).stJ 6 rfl _ _).stJ 6 rfl _ _).stJ 6 rfl _ _)
    clear_value hv5
    obtain ⟨Jv_2, T0, T1⟩ := T
    obtain ⟨B, hB, _⟩ := Y.cut [] [0, 1, 2, 3, 4, 5, 6] rfl
    intro K
    have hK : ∀  (hv6 : Heap), (Sy h [] hv6 ([] ++ B) ∧ Jv_2) → K hv6 := by
      subst hB
      clear T0 Y
      rintro hv6 ⟨Y, T⟩
      replace T := T1 T
      have Y : Sy _ _ _ [_, _, _, _, _, _, _] := Y
      unfold K
      refine cnd_imp T (fun T => ?_) (fun T => ?_)
      · exact ⟨_, Y.pick [] rfl, rfl, T⟩
      · exact ⟨_, Y.pick [] rfl, rfl, T⟩
    subst hB
    replace T := T0
    clear T0 T1
    refine cnd_imp T (fun T => ?_) (fun T => ?_)
    · exact hK _ ⟨Y.pick [0, 1, 2, 3, 4, 5, 6] rfl, T⟩
    · refine cnd_imp T (fun T => ?_) (fun T => ?_)
      · exact hK _ ⟨Y.pick [0, 1, 2, 3, 4, 5, 6] rfl, T⟩
      · refine cnd_imp T (fun T => ?_) (fun T => ?_)
        · refine cnd_imp T (fun T => ?_) (fun T => ?_)
          · exact ⟨_, Y.pick [] rfl, rfl, T⟩
          · exact ⟨_, Y.pick [] rfl, rfl, T⟩
        · obtain ⟨q, q_3, T⟩ := T
          refine ⟨q, Int.le_refl _, by omega, by omega, ?_⟩
          intro hv7
          have Y : Sy _ _ hv7 [_, _, _, _, _, _, _, _] := Y.mkS (E := eI) (ty := 3) (0 : Int) (Int.toNat g) (Int.toNat g) (Nat.le_refl _) (by simp [maxLen]; omega)
          clear_value hv7
          obtain ⟨Iv, m, T0, T1⟩ := T
          obtain ⟨B_2, hB_2, YB⟩ := Y.cut [7] [0, 1, 2, 3, 4, 5, 6] rfl
          obtain ⟨F, hF⟩ := Y.fnS (k := 7) rfl
          obtain ⟨JJ, hJJ⟩ : ∃ JJ : Nat → List Value → Heap → Prop, JJ = (fun k lz h' => ∃ (i : Int) (x_2 : List Int), lz = [.int .i64 i] ∧ Sy h [] h' ([F x_2] ++ B_2) ∧ Iv i x_2 ∧ m i x_2 = k) := ⟨_, rfl⟩
          refine ⟨fun lz h' => ∃ k, JJ k lz h', Lm JJ, ?_, ?_⟩
          · subst hJJ hB_2 hF
            exact ⟨_, _, _, rfl, YB, T0, rfl⟩
          · clear YB T0 Y
            intro i hv8 hI
            obtain ⟨k, hI, hm⟩ := loopIn hI
            subst hJJ hB_2 hF
            obtain ⟨i, x_2, e, Y, T, rfl⟩ := hI
            cases e
            replace T := T1 i x_2 T
            have Y : Sy _ _ _ [_, _, _, _, _, _, _, _] := Y
            refine cnd_imp T (fun T => ?_) (fun T => ?_)
            · obtain ⟨q_4, q_5, T⟩ := T
              obtain ⟨b_2, hb, ho, ra_5, hx⟩ := Y.atS 3 rfl q_4 q_5
              refine ⟨b_2, 0, hb, q_4, q_5, ?_⟩
              replace T := T ra_5 hx
              refine ⟨_, Y.cellS 3 rfl hb (t := 0) hx rfl, ?_⟩
              obtain ⟨q_6, q_7, T⟩ := T
              obtain ⟨b_3, hb_2, ho_2, x_3, hx_2⟩ := Y.atS 0 rfl q_6 q_7
              refine ⟨b_3, 0, hb_2, q_6, q_7, ?_⟩
              refine ⟨(Y.neJ 0 2 rfl rfl rfl ho_2), (Y.neJ 0 7 rfl rfl rfl ho_2), Y.cellEx 0 rfl hb_2 (t := 0) (by omega) (by decide), Y.freeS 0 rfl hb_2 _, ?_⟩
              intro hv9
              have Y : Sy _ _ hv9 [_, _, _, _, _, _, _, _] := Y.st1 0 rfl hb_2 (IntKind.i64.wrap (i + (1 : Int))) (by omega) rfl
              clear_value hv9
              exact loopBack hm ⟨_, _, rfl, Y.pick [0, 1, 2, 3, 4, 5, 6, 7] rfl, T.1, rfl⟩ T.2
            · obtain ⟨Iv2, m2, T0, T1⟩ := T
              obtain ⟨B_3, hB_3, YB⟩ := Y.cut [] [0, 1, 2, 3, 4, 5, 6, 7] rfl
              obtain ⟨JJ_2, hJJ_2⟩ : ∃ JJ_2 : Nat → List Value → Heap → Prop, JJ_2 = (fun k_2 lz h' => ∃ (i2 : Int), lz = [.int .i64 i2] ∧ Sy h [] h' ([] ++ B_3) ∧ Iv2 i2 ∧ m2 i2 = k_2) := ⟨_, rfl⟩
              refine ⟨fun lz h' => ∃ k_2, JJ_2 k_2 lz h', Lm JJ_2, ?_, ?_⟩
              · subst hJJ_2 hB_3
                exact ⟨_, _, rfl, YB, T0, rfl⟩
              · clear YB T0 Y
                intro i2 hv10 hI
                obtain ⟨k_2, hI, hm_2⟩ := loopIn hI
                subst hJJ_2 hB_3
                obtain ⟨i2, e, Y, T, rfl⟩ := hI
                cases e
                replace T := T1 i2 T
                have Y : Sy _ _ _ [_, _, _, _, _, _, _, _] := Y
                refine cnd_imp T (fun T => ?_) (fun T => ?_)
                · obtain ⟨Jv, T0, T1⟩ := T
                  obtain ⟨B_4, hB_4, _⟩ := Y.cut [] [0, 1, 2, 3, 4, 5, 6, 7] rfl
                  refine ⟨fun lz h' => lz = [] ∧ Sy h [] h' ([] ++ B_4) ∧ Jv, ?_, ?_⟩
                  · subst hB_4
                    replace T := T0
                    clear T0 T1
                    have Y0 := Y
                    have F : Fr [] hv10 hv10 := Fr.refl _ _
                    obtain ⟨q_8, q_9, T⟩ := T
                    obtain ⟨b_4, o_2, hb_3, hr, g_2, hx_3⟩ := Y0.atV 1 rfl q_8 q_9
                    refine ⟨b_4, o_2, hb_3, q_8, q_9, ?_⟩
                    replace T := T g_2 hx_3
                    refine ⟨_, Y0.cellV 1 rfl hb_3 (t := 0) hx_3 rfl, ?_⟩
                    refine ⟨b_4, o_2, hb_3, q_8, q_9, ?_⟩
                    refine ⟨_, Y0.cellV 1 rfl hb_3 (t := 1) hx_3 rfl, ?_⟩
                    obtain ⟨Jv_3, T0, T1⟩ := T
                    obtain ⟨B_5, hB_5, _⟩ := Y.cut [] [0, 1, 2, 3, 4, 5, 6, 7] rfl
                    intro K2
                    have hK2 : ∀  (hv11 : Heap), (Sy h [] hv11 ([] ++ B_5) ∧ Jv_3) → K2 hv11 := by
                      subst hB_5
                      clear T0 Y
                      rintro hv11 ⟨Y, T⟩
                      replace T := T1 T
                      have Y : Sy _ _ _ [_, _, _, _, _, _, _, _] := Y
                      unfold K2
                      refine cnd_imp T (fun T => ?_) (fun T => ?_)
                      · exact ⟨rfl, Y.pick [0, 1, 2, 3, 4, 5, 6, 7] rfl, T⟩
                      · refine callX_sy (T _ _ _ _ _ _ _ _ _ _ _ _ _ _ _ _ (((((Y.turn 3 rfl To.slvw).turn 4 rfl To.slvw).turn 5 rfl To.slvw).turn 6 rfl To.slvw).pick [1, 3, 4, 5, 6] rfl).hp) (fun _ _ ⟨_, p, _⟩ => p.fr) (allc (fun h => by cases h) (allc (fun h => by cases h) alln)) ?_
                        rintro v3 hv12 ⟨r2, PP, rfl, T⟩
                        have Y : Sy _ _ hv12 [_, _, _, _, _, _, _, _] := Y.gr PP.fr
                        clear PP
                        refine ⟨r2, rfl, ?_⟩
                        refine cnd_imp T (fun T => ?_) (fun T => ?_)
                        · refine callX_sy (T _ _ _ _ _ _ _ _ _ _ _ _ _ _ _ _ (((((Y.turn 3 rfl To.slvw).turn 4 rfl To.slvw).turn 5 rfl To.slvw).turn 6 rfl To.slvw).pick [1, 3, 4, 5, 6] rfl).hp) (fun _ _ ⟨_, p, _⟩ => p.fr) (allc (fun h => by cases h) (allc (fun h => by cases h) alln)) ?_
                          rintro v4 hv13 ⟨r3, PP, rfl, T⟩
                          have Y : Sy _ _ hv13 [_, _, _, _, _, _, _, _] := Y.gr PP.fr
                          clear PP
                          refine ⟨r3, rfl, ?_⟩
                          refine cnd_imp T (fun T => ?_) (fun T => ?_)
                          · exact ⟨_, Y.pick [] rfl, rfl, T⟩
                          · exact ⟨rfl, Y.pick [0, 1, 2, 3, 4, 5, 6, 7] rfl, T⟩
                        · exact ⟨rfl, Y.pick [0, 1, 2, 3, 4, 5, 6, 7] rfl, T⟩
                    subst hB_5
                    replace T := T0
                    clear T0 T1
                    obtain ⟨q_10, q_11, T⟩ := T
                    obtain ⟨b_5, hb_4, ho_3, x_4, hx_4⟩ := Y.atS 0 rfl q_10 q_11
                    refine ⟨b_5, 0, hb_4, q_10, q_11, ?_⟩
                    replace T := T x_4 hx_4
                    refine ⟨_, Y.cellS 0 rfl hb_4 (t := 0) hx_4 rfl, ?_⟩
                    refine cnd_imp T (fun T => ?_) (fun T => ?_)
                    · obtain ⟨q_12, q_13, T⟩ := T
                      obtain ⟨b_6, hb_5, ho_4, x_5, hx_5⟩ := Y.atS 0 rfl q_12 q_13
                      refine ⟨b_6, 0, hb_5, q_12, q_13, ?_⟩
                      replace T := T x_5 hx_5
                      refine ⟨_, Y.cellS 0 rfl hb_5 (t := 0) hx_5 rfl, ?_⟩
                      refine cnd_imp T (fun T => ?_) (fun T => ?_)
                      · exact ⟨rfl, Y.pick [0, 1, 2, 3, 4, 5, 6, 7] rfl, T⟩
                      · exact hK2 _ ⟨Y.pick [0, 1, 2, 3, 4, 5, 6, 7] rfl, T⟩
                    · exact hK2 _ ⟨Y.pick [0, 1, 2, 3, 4, 5, 6, 7] rfl, T⟩
                  · subst hB_4
                    clear T0 Y
                    rintro hv14 ⟨e, Y, T⟩
                    cases e
                    replace T := T1 T
                    have Y : Sy _ _ _ [_, _, _, _, _, _, _, _] := Y
                    exact loopBack hm_2 ⟨_, rfl, Y.pick [0, 1, 2, 3, 4, 5, 6, 7] rfl, T.1, rfl⟩ T.2
                · obtain ⟨Iv3, m3, T0, T1⟩ := T
                  obtain ⟨B_6, hB_6, YB⟩ := Y.cut [] [0, 1, 2, 3, 4, 5, 6, 7] rfl
                  obtain ⟨JJ_3, hJJ_3⟩ : ∃ JJ_3 : Nat → List Value → Heap → Prop, JJ_3 = (fun k_3 lz h' => ∃ (i3 : Int), lz = [.int .i64 i3] ∧ Sy h [] h' ([] ++ B_6) ∧ Iv3 i3 ∧ m3 i3 = k_3) := ⟨_, rfl⟩
                  refine ⟨fun lz h' => ∃ k_3, JJ_3 k_3 lz h', Lm JJ_3, ?_, ?_⟩
                  · subst hJJ_3 hB_6
                    exact ⟨_, _, rfl, YB, T0, rfl⟩
                  · clear YB T0 Y
                    intro i3 hv15 hI
                    obtain ⟨k_3, hI, hm_3⟩ := loopIn hI
                    subst hJJ_3 hB_6
                    obtain ⟨i3, e, Y, T, rfl⟩ := hI
                    cases e
                    replace T := T1 i3 T
                    have Y : Sy _ _ _ [_, _, _, _, _, _, _, _] := Y
                    refine cnd_imp T (fun T => ?_) (fun T => ?_)
                    · obtain ⟨q_14, q_15, T⟩ := T
                      obtain ⟨b_7, hb_6, ho_5, ra_6, hx_6⟩ := Y.atS 3 rfl q_14 q_15
                      refine ⟨b_7, 0, hb_6, q_14, q_15, ?_⟩
                      replace T := T ra_6 hx_6
                      refine ⟨_, Y.cellS 3 rfl hb_6 (t := 0) hx_6 rfl, ?_⟩
                      have Y0 := Y
                      have F : Fr [] hv15 hv15 := Fr.refl _ _
                      obtain ⟨q_16, q_17, T⟩ := T
                      obtain ⟨b_8, hb_7, ho_6, ra_7, hx_7⟩ := Y0.atS 6 rfl q_16 q_17
                      refine ⟨b_8, 0, hb_7, q_16, q_17, ?_⟩
                      replace T := T ra_7 hx_7
                      refine ⟨_, Y0.cellS 6 rfl hb_7 (t := 0) hx_7 rfl, ?_⟩
                      refine cnd_imp T (fun T => ?_) (fun T => ?_)
                      · refine ⟨F, ?_⟩
                        exact ⟨_, Y.pick [] rfl, rfl, T⟩
                      · obtain ⟨q_18, q_19, T⟩ := T
                        obtain ⟨b_9, hb_8, ho_7, ra_8, hx_8⟩ := Y0.atS 5 rfl q_18 q_19
                        refine ⟨b_9, 0, hb_8, q_18, q_19, ?_⟩
                        replace T := T ra_8 hx_8
                        refine ⟨_, Y0.cellS 5 rfl hb_8 (t := 0) hx_8 rfl, ?_⟩
                        obtain ⟨q_20, q_21, T⟩ := T
                        obtain ⟨b_10, hb_9, ho_8, ra_9, hx_9⟩ := Y0.atS 4 rfl q_20 q_21
                        refine ⟨b_10, 0, hb_9, q_20, q_21, ?_⟩
                        replace T := T ra_9 hx_9
                        refine ⟨_, Y0.cellS 4 rfl hb_9 (t := 0) hx_9 rfl, ?_⟩
                        refine callX_sy (T _ _ _ _ (Y.pick [1] rfl).hp) (fun _ _ ⟨_, p, _⟩ => p.fr) (allc (fun h => by cases h) (allc (fun h => by cases h) alln)) ?_
                        rintro v5 hv16 ⟨r4, PP, rfl, T⟩
                        have F : Fr _ _ hv16 := F.trans PP.fr.nil
                        have fshv16 := F.size
                        have Y : Sy _ _ hv16 [_, _, _, _, _, _, _, _] := Y.gr PP.fr
                        clear PP
                        refine ⟨r4, rfl, ?_⟩
                        refine ⟨F, ?_⟩
                        obtain ⟨q_22, q_23, T⟩ := T
                        obtain ⟨b_11, hb_10, ho_9, ra_10, hx_10⟩ := Y0.atS 5 rfl q_22 q_23
                        refine ⟨b_11, 0, hb_10, q_22, q_23, ?_⟩
                        replace T := T ra_10 hx_10
                        refine ⟨_, Y0.cellS 5 rfl hb_10 (t := 0) hx_10 rfl, ?_⟩
                        refine cnd_imp T (fun T => ?_) (fun T => ?_)
                        · exact ⟨_, Y.pick [] rfl, rfl, T⟩
                        · exact loopBack hm_3 ⟨_, rfl, Y.pick [0, 1, 2, 3, 4, 5, 6, 7] rfl, T.1, rfl⟩ T.2
                    · exact ⟨_, Y.pick [] rfl, rfl, T⟩

/-- tracery/tracerylaw6.WalkSides -/
def S18 (g : Int) (gA : Option Addr) (gL gC : Nat) (h : Heap) (R : Value → Heap → Prop) : Prop :=
  let hv : Heap := h.push (.cells #[.int .i64 g, .slice gA gL gC] 26)
  callX Try.prog 80 #[] hv [h.size] fun v hv2 =>
  ∃ r : Bool, v = .bool r ∧
  cnd (!r)
    (R (.bool false) hv2)
    (callX Try.prog 90 #[.agg #[.int .i64 g, .slice gA gL gC]] hv2 [h.size] fun v2 hv3 =>
    ∃ (raA : Option Addr) (raL raC : Nat), ∃ (rbA : Option Addr) (rbL rbC : Nat), ∃ rc : Int, v2 = .tuple #[.slice raA raL raC, .slice rbA rbL rbC, .int .i64 rc] ∧
    callX Try.prog 43 #[.agg #[.int .i64 g, .slice gA gL gC]] hv3 [h.size] fun v3 hv4 =>
    ∃ r2 : Bool, v3 = .bool r2 ∧
    cnd (!r2)
      (cnd (rc == (1 : Int))
        (cnd (((raL : Nat) : Int) == (0 : Int))
          (R (.bool (((rbL : Nat) : Int) == (0 : Int))) hv4)
          (R (.bool false) hv4))
        (R (.bool false) hv4))
      (cnd (rc != (0 : Int))
        (R (.bool false) hv4)
        (cnd (decide (((rbL : Nat) : Int) > (0 : Int)))
          (let K := fun (hv7 : Heap) =>
            (R (.bool false) hv7)
          cnd (((raL : Nat) : Int) == (0 : Int))
            ((2 : Int) ≠ 0 ∧ cnd ((Int.tmod ((rbL : Nat) : Int) (2 : Int)) == (1 : Int))
              (callX Try.prog 91 #[.agg #[.int .i64 g, .slice gA gL gC], .slice rbA rbL rbC, .bool true] hv4 [h.size] fun v4 hv5 =>
              ∃ r3 : Bool, v4 = .bool r3 ∧
              cnd r3
                (cnd (decide (((rbL : Nat) : Int) > (400 : Int)))
                  (R (.bool true) hv5)
                  (callX Try.prog 92 #[.agg #[.int .i64 g, .slice gA gL gC], .slice rbA rbL rbC, .bool false] hv5 [h.size] fun v5 hv6 =>
                  ∃ r4 : Bool, v5 = .bool r4 ∧
                  R (.bool r4) hv6))
                (K hv5))
              (K hv4))
            (K hv4))
          (cnd (((raL : Nat) : Int) != g)
            (R (.bool false) hv4)
            (callX Try.prog 36 #[.agg #[.int .i64 g, .slice gA gL gC], .slice none 0 0, .slice none 0 0] hv4 [h.size] fun v6 hv8 =>
            ∃ (raA2 : Option Addr) (raL2 raC2 : Nat), ∃ rb : Int, v6 = .tuple #[.slice raA2 raL2 raC2, .int .i64 rb] ∧
            0 ≤ rb ∧ rb ≤ rb ∧ ((1 : Nat) : Int) * rb ≤ 281474976710656 ∧ rb ≤ 9223372036854775807 ∧ let hv9 : Heap := hv8.push (.cells (madeCells (List.toArray [.bool false]) (Int.toNat rb * 1)) 4)
            ∃ (Iv : List Value → Heap → Prop) (m : List Value → Heap → Nat), Iv [.int .i64 0] hv9 ∧ -- loop 0: ['v']
            ∀ v7 : Int, ∀ hv10, Iv [.int .i64 v7] hv10 →
            cnd (decide (v7 < g))
              (let K3 := fun (hv12 : Heap) =>
                (∃ b9 o9, raA2 = some ⟨b9, o9, none⟩ ∧ 0 ≤ v7 ∧ v7 < (raL2 : Nat) ∧ ∃ x10 : Int, hcell hv12 b9 (o9 + (Int.toNat v7) * 1) = some (.int .i64 x10) ∧ ∃ b10 o10, (some (⟨hv8.size, 0, none⟩ : Addr)) = some ⟨b10, o10, none⟩ ∧ 0 ≤ x10 ∧ x10 < ((Int.toNat rb) : Nat) ∧ b10 ≠ h.size ∧ (∃ u, hcell hv12 b10 (o10 + (Int.toNat x10) * 1) = some u) ∧ hfree hv12 b10 (o10 + (Int.toNat x10) * 1) = true ∧ let hv13 : Heap := hset hv12 b10 (o10 + (Int.toNat x10) * 1) (.bool true)
                Iv [.int .i64 (IntKind.i64.wrap (v7 + (1 : Int)))] hv13 ∧ m [.int .i64 (IntKind.i64.wrap (v7 + (1 : Int)))] hv13 < m [.int .i64 v7] hv10)
              let K2 := fun (x9 : Bool) (hv11 : Heap) =>
                (cnd x9
                  (R (.bool false) hv11)
                  (K3 hv11))
              ∃ b o, raA = some ⟨b, o, none⟩ ∧ 0 ≤ v7 ∧ v7 < (raL : Nat) ∧ ∃ x : Int, hcell hv10 b (o + (Int.toNat v7) * 1) = some (.int .i64 x) ∧ cnd (x != (0 : Int))
                (∃ b2 o2, raA = some ⟨b2, o2, none⟩ ∧ 0 ≤ v7 ∧ v7 < (raL : Nat) ∧ ∃ x2 : Int, hcell hv10 b2 (o2 + (Int.toNat v7) * 1) = some (.int .i64 x2) ∧ cnd (x2 != (1 : Int))
                  (R (.bool false) hv10)
                  (∃ b3 o3, raA2 = some ⟨b3, o3, none⟩ ∧ 0 ≤ v7 ∧ v7 < (raL2 : Nat) ∧ ∃ x3 : Int, hcell hv10 b3 (o3 + (Int.toNat v7) * 1) = some (.int .i64 x3) ∧ ∃ b4 o4, (some (⟨hv8.size, 0, none⟩ : Addr)) = some ⟨b4, o4, none⟩ ∧ 0 ≤ x3 ∧ x3 < ((Int.toNat rb) : Nat) ∧ ∃ x4 : Bool, hcell hv10 b4 (o4 + (Int.toNat x3) * 1) = some (.bool x4) ∧ cnd (!x4)
                    (∃ b5 o5, raA = some ⟨b5, o5, none⟩ ∧ 0 ≤ v7 ∧ v7 < (raL : Nat) ∧ ∃ x5 : Int, hcell hv10 b5 (o5 + (Int.toNat v7) * 1) = some (.int .i64 x5) ∧ K2 (x5 != (0 : Int)) hv10)
                    (K3 hv10)))
                (∃ b6 o6, raA2 = some ⟨b6, o6, none⟩ ∧ 0 ≤ v7 ∧ v7 < (raL2 : Nat) ∧ ∃ x6 : Int, hcell hv10 b6 (o6 + (Int.toNat v7) * 1) = some (.int .i64 x6) ∧ ∃ b7 o7, (some (⟨hv8.size, 0, none⟩ : Addr)) = some ⟨b7, o7, none⟩ ∧ 0 ≤ x6 ∧ x6 < ((Int.toNat rb) : Nat) ∧ ∃ x7 : Bool, hcell hv10 b7 (o7 + (Int.toNat x6) * 1) = some (.bool x7) ∧ cnd (!x7)
                  (∃ b8 o8, raA = some ⟨b8, o8, none⟩ ∧ 0 ≤ v7 ∧ v7 < (raL : Nat) ∧ ∃ x8 : Int, hcell hv10 b8 (o8 + (Int.toNat v7) * 1) = some (.int .i64 x8) ∧ K2 (x8 != (0 : Int)) hv10)
                  (K3 hv10)))
              (∃ (Iv2 : List Value → Heap → Prop) (m2 : List Value → Heap → Nat), Iv2 [.int .i64 0] hv10 ∧ -- loop 2: ['i']
              ∀ i : Int, ∀ hv14, Iv2 [.int .i64 i] hv14 →
              cnd (decide (i < ((gL : Nat) : Int)))
                (∃ b11 o11, gA = some ⟨b11, o11, none⟩ ∧ 0 ≤ i ∧ i < (gL : Nat) ∧ ∃ x11 : Int, hcell hv14 b11 ((o11 + (Int.toNat i) * 2) + 0) = some (.int .i64 x11) ∧ ∃ b12 o12, raA = some ⟨b12, o12, none⟩ ∧ 0 ≤ x11 ∧ x11 < (raL : Nat) ∧ ∃ x12 : Int, hcell hv14 b12 (o12 + (Int.toNat x11) * 1) = some (.int .i64 x12) ∧ ∃ b13 o13, gA = some ⟨b13, o13, none⟩ ∧ 0 ≤ i ∧ i < (gL : Nat) ∧ ∃ x13 : Int, hcell hv14 b13 ((o13 + (Int.toNat i) * 2) + 1) = some (.int .i64 x13) ∧ ∃ b14 o14, raA = some ⟨b14, o14, none⟩ ∧ 0 ≤ x13 ∧ x13 < (raL : Nat) ∧ ∃ x14 : Int, hcell hv14 b14 (o14 + (Int.toNat x13) * 1) = some (.int .i64 x14) ∧ cnd (x12 == x14)
                  (R (.bool false) hv14)
                  (Iv2 [.int .i64 (IntKind.i64.wrap (i + (1 : Int)))] hv14 ∧ m2 [.int .i64 (IntKind.i64.wrap (i + (1 : Int)))] hv14 < m2 [.int .i64 i] hv14))
                (R (.bool true) hv14)))))))

theorem calls18 {h : Heap} {R : Value → Heap → Prop} (g : Int) (gA : Option Addr) (gL gC : Nat) (H : S18 g gA gL gC h R) : CallsH Try.prog 18 #[.agg #[.int .i64 g, .slice gA gL gC]] h R := by
  have e : S18 g gA gL gC h R = FX (envX [1] 142) { loops := [(0, ⟨[1, 3, 6, 8], [9], [1], []⟩), (2, ⟨[1, 3], [10], [1], []⟩)], joins := [], blocks := [], draws := [(23, ⟨19, false⟩)] } Try.f18 (Try.f18.body.getD .skip) [.agg #[.int .i64 g, .slice gA gL gC]] h R := by kernel_rfl
  exact calls_of_FX (envX_ok _ _) Try.func18 (by kernel_rfl) (by kernel_rfl) (by kernel_rfl) (e ▸ H)

/-- tracery/tracerylaw6.WalkSides -/
def Ok18 (g : Int) (edgesV : List (Int × Int)) (R : Bool → Prop) : Prop :=
  ∀ (h : Heap) (gA : Option Addr) (gL gC : Nat), Hp h [Ck.vw eP gA gL gC edgesV] → CallsH Try.prog 18 #[.agg #[.int .i64 g, .slice gA gL gC]] h fun v h' => ∃ (rV : Bool), Sy h [] h' [] ∧ v = .bool rV ∧ R rV
theorem Ok18.mono {g edgesV} {R R' : Bool → Prop} (H : Ok18 g edgesV R) (kz : ∀ rV, R rV → R' rV) : Ok18 g edgesV R' :=
  fun h gA gL gC hp => (H h gA gL gC hp).mono fun _ _ ⟨rV, P, e, q⟩ => ⟨rV, P, e, kz _ q⟩

def T18 (g : Int) (edgesV : List (Int × Int)) (R : Bool → Prop) : Prop :=
  Ok80 (fun r =>
  cnd (!r)
    (R false)
    (Ok90 g edgesV (fun ra rb_2 rc =>
    Ok43 g edgesV (fun r2 =>
    cnd (!r2)
      (cnd (rc == (1 : Int))
        (cnd (((ra.length : Nat) : Int) == (0 : Int))
          (R (((rb_2.length : Nat) : Int) == (0 : Int)))
          (R false))
        (R false))
      (cnd (rc != (0 : Int))
        (R false)
        (cnd (decide (((rb_2.length : Nat) : Int) > (0 : Int)))
          (∃ Jv : Prop,
          ( cnd (((ra.length : Nat) : Int) == (0 : Int))
             ((2 : Int) ≠ 0 ∧ cnd ((Int.tmod ((rb_2.length : Nat) : Int) (2 : Int)) == (1 : Int))
               (Ok91 g edgesV rb_2 true (fun r3 =>
               cnd r3
                 (cnd (decide (((rb_2.length : Nat) : Int) > (400 : Int)))
                   (R true)
                   (Ok92 g edgesV rb_2 false (fun r4 =>
                   R r4)))
                 (Jv)))
               (Jv))
             (Jv)) ∧
          (Jv →
          R false))
          (cnd (((ra.length : Nat) : Int) != g)
            (R false)
            (Ok36 g edgesV ([] : List Bool) true ([] : List Bool) true (fun ra_2 rb =>
            0 ≤ rb ∧ rb ≤ 1000000000000 ∧ ∃ (Iv : Int → List Bool → Prop) (m : Int → List Bool → Nat), Iv 0 (List.replicate (Int.toNat rb) false) ∧
            ∀ v7 : Int, ∀ x_2 : List Bool, Iv v7 x_2 →
            cnd (decide (v7 < g))
              (∃ Jv_2 : Prop,
              ( ∃ Jv_3 : Bool → Prop,
               ( 0 ≤ v7 ∧ v7 < ((ra.length : Nat) : Int) ∧ ∀ ra_4 : Int, ra[(Int.toNat v7)]? = some ra_4 → cnd (ra_4 != (0 : Int))
                  (cnd (ra_4 != (1 : Int))
                    (R false)
                    (0 ≤ v7 ∧ v7 < ((ra_2.length : Nat) : Int) ∧ ∀ ra_5 : Int, ra_2[(Int.toNat v7)]? = some ra_5 → 0 ≤ ra_5 ∧ ra_5 < (((Int.toNat rb) : Nat) : Int) ∧ ∀ x_4 : Bool, x_2[(Int.toNat ra_5)]? = some x_4 → cnd (!x_4)
                      (Jv_3 (ra_4 != (0 : Int)))
                      (Jv_2)))
                  (0 ≤ v7 ∧ v7 < ((ra_2.length : Nat) : Int) ∧ ∀ ra_6 : Int, ra_2[(Int.toNat v7)]? = some ra_6 → 0 ≤ ra_6 ∧ ra_6 < (((Int.toNat rb) : Nat) : Int) ∧ ∀ x_5 : Bool, x_2[(Int.toNat ra_6)]? = some x_5 → cnd (!x_5)
                    (Jv_3 (ra_4 != (0 : Int)))
                    (Jv_2))) ∧
               ∀ x9 : Bool, Jv_3 x9 →
               cnd x9
                 (R false)
                 (Jv_2)) ∧
              (Jv_2 →
              0 ≤ v7 ∧ v7 < ((ra_2.length : Nat) : Int) ∧ ∀ ra_3 : Int, ra_2[(Int.toNat v7)]? = some ra_3 → 0 ≤ ra_3 ∧ ra_3 < (((Int.toNat rb) : Nat) : Int) ∧ Iv (IntKind.i64.wrap (v7 + (1 : Int))) (x_2.set (Int.toNat ra_3) true) ∧ m (IntKind.i64.wrap (v7 + (1 : Int))) (x_2.set (Int.toNat ra_3) true) < m v7 x_2))
              (∃ (Iv2 : Int → Prop) (m2 : Int → Nat), Iv2 0 ∧
              ∀ i : Int, Iv2 i →
              cnd (decide (i < ((edgesV.length : Nat) : Int)))
                (0 ≤ i ∧ i < ((edgesV.length : Nat) : Int) ∧ ∀ g_2 : (Int × Int), edgesV[(Int.toNat i)]? = some g_2 → 0 ≤ g_2.1 ∧ g_2.1 < ((ra.length : Nat) : Int) ∧ ∀ ra_7 : Int, ra[(Int.toNat g_2.1)]? = some ra_7 → 0 ≤ g_2.2 ∧ g_2.2 < ((ra.length : Nat) : Int) ∧ ∀ ra_8 : Int, ra[(Int.toNat g_2.2)]? = some ra_8 → cnd (ra_7 == ra_8)
                  (R false)
                  (Iv2 (IntKind.i64.wrap (i + (1 : Int))) ∧ m2 (IntKind.i64.wrap (i + (1 : Int))) < m2 i))
                (R true)))))))))))

theorem ok18 {g edgesV} {R : Bool → Prop} (T : T18 g edgesV R) : Ok18 g edgesV R := by
  intro h gA gL gC H
  have Y : Sy h [] h _ := Sy.startM H rfl
  obtain rfl := Y.lenV 0 rfl
  apply calls18
  unfold S18
  unfold T18 at T
  intro hv
  have Y : Sy _ _ hv [_, _] := Y.junk _
  clear_value hv
  refine callX_sy (T _ (Hp.nil _)) (fun _ _ ⟨_, p, _⟩ => p.fr) (allc (fun h => by cases h) alln) ?_
  rintro v hv2 ⟨r, PP, rfl, T⟩
  have Y : Sy _ _ hv2 [_, _] := Y.gr PP.fr
  clear PP
  refine ⟨r, rfl, ?_⟩
  refine cnd_imp T (fun T => ?_) (fun T => ?_)
  · exact ⟨_, Y.pick [] rfl, rfl, T⟩
  · refine callX_sy (T _ _ _ _ (Y.pick [0] rfl).hp) (fun _ _ ⟨_, _, _, _, _, _, _, _, _, p, _⟩ => p.fr) (allc (fun h => by cases h) alln) ?_
    rintro v2 hv3 ⟨raA, raL, raC, ra, rbA, rbL, rbC, rb_2, rc, PP, rfl, T⟩
    have Y : Sy _ _ hv3 [_, _, _, _] := Y.callV PP ⟨rfl, ⟨rfl, trivial⟩⟩
    clear PP
    obtain rfl := Y.lenS 2 rfl
    obtain rfl := Y.lenS 3 rfl
    refine ⟨_, _, _, _, _, _, rc, rfl, ?_⟩
    refine callX_sy (T _ _ _ _ (Y.pick [0] rfl).hp) (fun _ _ ⟨_, p, _⟩ => p.fr) (allc (fun h => by cases h) alln) ?_
    rintro v3 hv4 ⟨r2, PP, rfl, T⟩
    have Y : Sy _ _ hv4 [_, _, _, _] := Y.gr PP.fr
    clear PP
    refine ⟨r2, rfl, ?_⟩
    refine cnd_imp T (fun T => ?_) (fun T => ?_)
    · refine cnd_imp T (fun T => ?_) (fun T => ?_)
      · refine cnd_imp T (fun T => ?_) (fun T => ?_)
        · exact ⟨_, Y.pick [] rfl, rfl, T⟩
        · exact ⟨_, Y.pick [] rfl, rfl, T⟩
      · exact ⟨_, Y.pick [] rfl, rfl, T⟩
    · refine cnd_imp T (fun T => ?_) (fun T => ?_)
      · exact ⟨_, Y.pick [] rfl, rfl, T⟩
      · refine cnd_imp T (fun T => ?_) (fun T => ?_)
        · obtain ⟨Jv, T0, T1⟩ := T
          obtain ⟨B, hB, _⟩ := Y.cut [] [0, 1, 2, 3] rfl
          intro K
          have hK : ∀  (hv7 : Heap), (Sy h [] hv7 ([] ++ B) ∧ Jv) → K hv7 := by
            subst hB
            clear T0 Y
            rintro hv7 ⟨Y, T⟩
            replace T := T1 T
            have Y : Sy _ _ _ [_, _, _, _] := Y
            unfold K
            exact ⟨_, Y.pick [] rfl, rfl, T⟩
          subst hB
          replace T := T0
          clear T0 T1
          refine cnd_imp T (fun T => ?_) (fun T => ?_)
          · obtain ⟨q, T⟩ := T
            refine ⟨q, ?_⟩
            refine cnd_imp T (fun T => ?_) (fun T => ?_)
            · refine callX_sy (T _ _ _ _ _ _ _ ((Y.turn 3 rfl To.slvw).pick [0, 3] rfl).hp) (fun _ _ ⟨_, p, _⟩ => p.fr) (allc (fun h => by cases h) alln) ?_
              rintro v4 hv5 ⟨r3, PP, rfl, T⟩
              have Y : Sy _ _ hv5 [_, _, _, _] := Y.gr PP.fr
              clear PP
              refine ⟨r3, rfl, ?_⟩
              refine cnd_imp T (fun T => ?_) (fun T => ?_)
              · refine cnd_imp T (fun T => ?_) (fun T => ?_)
                · exact ⟨_, Y.pick [] rfl, rfl, T⟩
                · refine callX_sy (T _ _ _ _ _ _ _ ((Y.turn 3 rfl To.slvw).pick [0, 3] rfl).hp) (fun _ _ ⟨_, p, _⟩ => p.fr) (allc (fun h => by cases h) alln) ?_
                  rintro v5 hv6 ⟨r4, PP, rfl, T⟩
                  have Y : Sy _ _ hv6 [_, _, _, _] := Y.gr PP.fr
                  clear PP
                  refine ⟨r4, rfl, ?_⟩
                  exact ⟨_, Y.pick [] rfl, rfl, T⟩
              · exact hK _ ⟨Y.pick [0, 1, 2, 3] rfl, T⟩
            · exact hK _ ⟨Y.pick [0, 1, 2, 3] rfl, T⟩
          · exact hK _ ⟨Y.pick [0, 1, 2, 3] rfl, T⟩
        · refine cnd_imp T (fun T => ?_) (fun T => ?_)
          · exact ⟨_, Y.pick [] rfl, rfl, T⟩
          · have Y : Sy _ _ _ [_, _, _, _, _] := Y.nilS eB 4
            have Y : Sy _ _ _ [_, _, _, _, _, _] := Y.nilS eB 4
            refine callX_sy (T _ _ _ _ _ _ _ _ _ _ (((Y.turn 4 rfl To.slvw).turn 5 rfl To.slvw).pick [0, 4, 5] rfl).hp rfl rfl) (fun _ _ ⟨_, _, _, _, _, p, _⟩ => p.fr) (allc (fun h => by cases h) alln) ?_
            rintro v6 hv8 ⟨raA2, raL2, raC2, ra_2, rb, PP, rfl, T⟩
            have Y : Sy _ _ hv8 [_, _, _, _, _, _, _] := Y.callV PP ⟨rfl, trivial⟩
            clear PP
            obtain rfl := Y.lenS 6 rfl
            refine ⟨_, _, _, rb, rfl, ?_⟩
            obtain ⟨q_2, q_4, T⟩ := T
            refine ⟨q_2, Int.le_refl _, by omega, by omega, ?_⟩
            intro hv9
            have Y : Sy _ _ hv9 [_, _, _, _, _, _, _, _] := Y.mkS (E := eB) (ty := 4) false (Int.toNat rb) (Int.toNat rb) (Nat.le_refl _) (by simp [maxLen]; omega)
            clear_value hv9
            obtain ⟨Iv, m, T0, T1⟩ := T
            obtain ⟨B_2, hB_2, YB⟩ := Y.cut [7] [0, 1, 2, 3, 4, 5, 6] rfl
            obtain ⟨F, hF⟩ := Y.fnS (k := 7) rfl
            obtain ⟨JJ, hJJ⟩ : ∃ JJ : Nat → List Value → Heap → Prop, JJ = (fun k lz h' => ∃ (v7 : Int) (x_2 : List Bool), lz = [.int .i64 v7] ∧ Sy h [] h' ([F x_2] ++ B_2) ∧ Iv v7 x_2 ∧ m v7 x_2 = k) := ⟨_, rfl⟩
            refine ⟨fun lz h' => ∃ k, JJ k lz h', Lm JJ, ?_, ?_⟩
            · subst hJJ hB_2 hF
              exact ⟨_, _, _, rfl, YB, T0, rfl⟩
            · clear YB T0 Y
              intro v7 hv10 hI
              obtain ⟨k, hI, hm⟩ := loopIn hI
              subst hJJ hB_2 hF
              obtain ⟨v7, x_2, e, Y, T, rfl⟩ := hI
              cases e
              replace T := T1 v7 x_2 T
              have Y : Sy _ _ _ [_, _, _, _, _, _, _, _] := Y
              refine cnd_imp T (fun T => ?_) (fun T => ?_)
              · obtain ⟨Jv_2, T0, T1⟩ := T
                obtain ⟨B_3, hB_3, _⟩ := Y.cut [] [0, 1, 2, 3, 4, 5, 6, 7] rfl
                intro K3
                have hK3 : ∀  (hv12 : Heap), (Sy h [] hv12 ([] ++ B_3) ∧ Jv_2) → K3 hv12 := by
                  subst hB_3
                  clear T0 Y
                  rintro hv12 ⟨Y, T⟩
                  replace T := T1 T
                  have Y : Sy _ _ _ [_, _, _, _, _, _, _, _] := Y
                  unfold K3
                  obtain ⟨q_5, q_6, T⟩ := T
                  obtain ⟨b_2, hb, ho, ra_3, hx⟩ := Y.atS 7 rfl q_5 q_6
                  refine ⟨b_2, 0, hb, q_5, q_6, ?_⟩
                  replace T := T ra_3 hx
                  refine ⟨_, Y.cellS 7 rfl hb (t := 0) hx rfl, ?_⟩
                  obtain ⟨q_7, q_8, T⟩ := T
                  obtain ⟨b_3, hb_2, ho_2, x_3, hx_2⟩ := Y.atS 0 rfl q_7 q_8
                  refine ⟨b_3, 0, hb_2, q_7, q_8, ?_⟩
                  refine ⟨(Y.neJ 0 2 rfl rfl rfl ho_2), Y.cellEx 0 rfl hb_2 (t := 0) (by omega) (by decide), Y.freeS 0 rfl hb_2 _, ?_⟩
                  intro hv13
                  have Y : Sy _ _ hv13 [_, _, _, _, _, _, _, _] := Y.st1 0 rfl hb_2 true (by omega) rfl
                  clear_value hv13
                  exact loopBack hm ⟨_, _, rfl, Y.pick [0, 1, 2, 3, 4, 5, 6, 7] rfl, T.1, rfl⟩ T.2
                subst hB_3
                replace T := T0
                clear T0 T1
                obtain ⟨Jv_3, T0, T1⟩ := T
                obtain ⟨B_4, hB_4, _⟩ := Y.cut [] [0, 1, 2, 3, 4, 5, 6, 7] rfl
                intro K2
                have hK2 : ∀ (x9 : Bool) (hv11 : Heap), (Sy h [] hv11 ([] ++ B_4) ∧ Jv_3 x9) → K2 x9 hv11 := by
                  subst hB_4
                  clear T0 Y
                  rintro x9 hv11 ⟨Y, T⟩
                  replace T := T1 x9 T
                  have Y : Sy _ _ _ [_, _, _, _, _, _, _, _] := Y
                  unfold K2
                  refine cnd_imp T (fun T => ?_) (fun T => ?_)
                  · exact ⟨_, Y.pick [] rfl, rfl, T⟩
                  · exact hK3 _ ⟨Y.pick [0, 1, 2, 3, 4, 5, 6, 7] rfl, T⟩
                subst hB_4
                replace T := T0
                clear T0 T1
                obtain ⟨q_9, q_10, T⟩ := T
                obtain ⟨b_4, hb_3, ho_3, ra_4, hx_3⟩ := Y.atS 3 rfl q_9 q_10
                refine ⟨b_4, 0, hb_3, q_9, q_10, ?_⟩
                replace T := T ra_4 hx_3
                refine ⟨_, Y.cellS 3 rfl hb_3 (t := 0) hx_3 rfl, ?_⟩
                refine cnd_imp T (fun T => ?_) (fun T => ?_)
                · refine ⟨b_4, 0, hb_3, q_9, q_10, ?_⟩
                  refine ⟨_, Y.cellS 3 rfl hb_3 (t := 0) hx_3 rfl, ?_⟩
                  refine cnd_imp T (fun T => ?_) (fun T => ?_)
                  · exact ⟨_, Y.pick [] rfl, rfl, T⟩
                  · obtain ⟨q_11, q_12, T⟩ := T
                    obtain ⟨b_5, hb_4, ho_4, ra_5, hx_4⟩ := Y.atS 7 rfl q_11 q_12
                    refine ⟨b_5, 0, hb_4, q_11, q_12, ?_⟩
                    replace T := T ra_5 hx_4
                    refine ⟨_, Y.cellS 7 rfl hb_4 (t := 0) hx_4 rfl, ?_⟩
                    obtain ⟨q_13, q_14, T⟩ := T
                    obtain ⟨b_6, hb_5, ho_5, x_4, hx_5⟩ := Y.atS 0 rfl q_13 q_14
                    refine ⟨b_6, 0, hb_5, q_13, q_14, ?_⟩
                    replace T := T x_4 hx_5
                    refine ⟨_, Y.cellS 0 rfl hb_5 (t := 0) hx_5 rfl, ?_⟩
                    refine cnd_imp T (fun T => ?_) (fun T => ?_)
                    · refine ⟨b_4, 0, hb_3, q_9, q_10, ?_⟩
                      refine ⟨_, Y.cellS 3 rfl hb_3 (t := 0) hx_3 rfl, ?_⟩
                      exact hK2 _ _ ⟨Y.pick [0, 1, 2, 3, 4, 5, 6, 7] rfl, T⟩
                    · exact hK3 _ ⟨Y.pick [0, 1, 2, 3, 4, 5, 6, 7] rfl, T⟩
                · obtain ⟨q_15, q_16, T⟩ := T
                  obtain ⟨b_7, hb_6, ho_6, ra_6, hx_6⟩ := Y.atS 7 rfl q_15 q_16
                  refine ⟨b_7, 0, hb_6, q_15, q_16, ?_⟩
                  replace T := T ra_6 hx_6
                  refine ⟨_, Y.cellS 7 rfl hb_6 (t := 0) hx_6 rfl, ?_⟩
                  obtain ⟨q_17, q_18, T⟩ := T
                  obtain ⟨b_8, hb_7, ho_7, x_5, hx_7⟩ := Y.atS 0 rfl q_17 q_18
                  refine ⟨b_8, 0, hb_7, q_17, q_18, ?_⟩
                  replace T := T x_5 hx_7
                  refine ⟨_, Y.cellS 0 rfl hb_7 (t := 0) hx_7 rfl, ?_⟩
                  refine cnd_imp T (fun T => ?_) (fun T => ?_)
                  · refine ⟨b_4, 0, hb_3, q_9, q_10, ?_⟩
                    refine ⟨_, Y.cellS 3 rfl hb_3 (t := 0) hx_3 rfl, ?_⟩
                    exact hK2 _ _ ⟨Y.pick [0, 1, 2, 3, 4, 5, 6, 7] rfl, T⟩
                  · exact hK3 _ ⟨Y.pick [0, 1, 2, 3, 4, 5, 6, 7] rfl, T⟩
              · obtain ⟨Iv2, m2, T0, T1⟩ := T
                obtain ⟨B_5, hB_5, YB⟩ := Y.cut [] [0, 1, 2, 3, 4, 5, 6, 7] rfl
                obtain ⟨JJ_2, hJJ_2⟩ : ∃ JJ_2 : Nat → List Value → Heap → Prop, JJ_2 = (fun k_2 lz h' => ∃ (i : Int), lz = [.int .i64 i] ∧ Sy h [] h' ([] ++ B_5) ∧ Iv2 i ∧ m2 i = k_2) := ⟨_, rfl⟩
                refine ⟨fun lz h' => ∃ k_2, JJ_2 k_2 lz h', Lm JJ_2, ?_, ?_⟩
                · subst hJJ_2 hB_5
                  exact ⟨_, _, rfl, YB, T0, rfl⟩
                · clear YB T0 Y
                  intro i hv14 hI
                  obtain ⟨k_2, hI, hm_2⟩ := loopIn hI
                  subst hJJ_2 hB_5
                  obtain ⟨i, e, Y, T, rfl⟩ := hI
                  cases e
                  replace T := T1 i T
                  have Y : Sy _ _ _ [_, _, _, _, _, _, _, _] := Y
                  refine cnd_imp T (fun T => ?_) (fun T => ?_)
                  · have Y0 := Y
                    have F : Fr [] hv14 hv14 := Fr.refl _ _
                    obtain ⟨q_19, q_20, T⟩ := T
                    obtain ⟨b_9, o_2, hb_8, hr, g_2, hx_8⟩ := Y0.atV 1 rfl q_19 q_20
                    refine ⟨b_9, o_2, hb_8, q_19, q_20, ?_⟩
                    replace T := T g_2 hx_8
                    refine ⟨_, Y0.cellV 1 rfl hb_8 (t := 0) hx_8 rfl, ?_⟩
                    obtain ⟨q_21, q_22, T⟩ := T
                    obtain ⟨b_10, hb_9, ho_8, ra_7, hx_9⟩ := Y0.atS 3 rfl q_21 q_22
                    refine ⟨b_10, 0, hb_9, q_21, q_22, ?_⟩
                    replace T := T ra_7 hx_9
                    refine ⟨_, Y0.cellS 3 rfl hb_9 (t := 0) hx_9 rfl, ?_⟩
                    refine ⟨b_9, o_2, hb_8, q_19, q_20, ?_⟩
                    refine ⟨_, Y0.cellV 1 rfl hb_8 (t := 1) hx_8 rfl, ?_⟩
                    obtain ⟨q_23, q_24, T⟩ := T
                    obtain ⟨b_11, hb_10, ho_9, ra_8, hx_10⟩ := Y0.atS 3 rfl q_23 q_24
                    refine ⟨b_11, 0, hb_10, q_23, q_24, ?_⟩
                    replace T := T ra_8 hx_10
                    refine ⟨_, Y0.cellS 3 rfl hb_10 (t := 0) hx_10 rfl, ?_⟩
                    refine cnd_imp T (fun T => ?_) (fun T => ?_)
                    · exact ⟨_, Y.pick [] rfl, rfl, T⟩
                    · exact loopBack hm_2 ⟨_, rfl, Y.pick [0, 1, 2, 3, 4, 5, 6, 7] rfl, T.1, rfl⟩ T.2
                  · exact ⟨_, Y.pick [] rfl, rfl, T⟩

/-- tracery/tracerylaw6.WalkRing -/
def S19 (g : Int) (gA : Option Addr) (gL gC : Nat) (h : Heap) (R : Value → Heap → Prop) : Prop :=
  let hv : Heap := h.push (.cells #[.int .i64 g, .slice gA gL gC] 26)
  callX Try.prog 80 #[] hv [h.size] fun v hv2 =>
  ∃ r : Bool, v = .bool r ∧
  cnd (!r)
    (R (.bool false) hv2)
    (let K := fun (hv4 : Heap) =>
      (callX Try.prog 93 #[.agg #[.int .i64 g, .slice gA gL gC]] hv4 [h.size] fun v3 hv5 =>
      ∃ (raA : Option Addr) (raL raC : Nat), ∃ rb : Int, v3 = .tuple #[.slice raA raL raC, .int .i64 rb] ∧
      callX Try.prog 43 #[.agg #[.int .i64 g, .slice gA gL gC]] hv5 [h.size] fun v4 hv6 =>
      ∃ r3 : Bool, v4 = .bool r3 ∧
      cnd (!r3)
        (cnd (rb == (1 : Int))
          (R (.bool (((raL : Nat) : Int) == (0 : Int))) hv6)
          (R (.bool false) hv6))
        (callX Try.prog 94 #[.agg #[.int .i64 g, .slice gA gL gC]] hv6 [h.size] fun v5 hv7 =>
        ∃ r4 : Int, v5 = .int .i64 r4 ∧
        cnd (r4 == (0 : Int))
          (cnd (rb == (14 : Int))
            (R (.bool (((raL : Nat) : Int) == (0 : Int))) hv7)
            (R (.bool false) hv7))
          (let K2 := fun (hv10 : Heap) =>
            (R (.bool false) hv10)
          cnd (rb == (0 : Int))
            (cnd (((raL : Nat) : Int) == r4)
              (callX Try.prog 91 #[.agg #[.int .i64 g, .slice gA gL gC], .slice raA raL raC, .bool true] hv7 [h.size] fun v6 hv8 =>
              ∃ r5 : Bool, v6 = .bool r5 ∧
              cnd r5
                (callX Try.prog 92 #[.agg #[.int .i64 g, .slice gA gL gC], .slice raA raL raC, .bool true] hv8 [h.size] fun v7 hv9 =>
                ∃ r6 : Bool, v7 = .bool r6 ∧
                R (.bool r6) hv9)
                (K2 hv8))
              (K2 hv7))
            (K2 hv7))))
    cnd (decide (((gL : Nat) : Int) > (60 : Int)))
      (callX Try.prog 43 #[.agg #[.int .i64 g, .slice gA gL gC]] hv2 [h.size] fun v2 hv3 =>
      ∃ r2 : Bool, v2 = .bool r2 ∧
      cnd r2
        (R (.bool true) hv3)
        (K hv3))
      (K hv2))

theorem calls19 {h : Heap} {R : Value → Heap → Prop} (g : Int) (gA : Option Addr) (gL gC : Nat) (H : S19 g gA gL gC h R) : CallsH Try.prog 19 #[.agg #[.int .i64 g, .slice gA gL gC]] h R := by
  have e : S19 g gA gL gC h R = FX (envX [1] 60) { loops := [], joins := [], blocks := [], draws := [] } Try.f19 (Try.f19.body.getD .skip) [.agg #[.int .i64 g, .slice gA gL gC]] h R := by kernel_rfl
  exact calls_of_FX (envX_ok _ _) Try.func19 (by kernel_rfl) (by kernel_rfl) (by kernel_rfl) (e ▸ H)

/-- tracery/tracerylaw6.WalkRing -/
def Ok19 (g : Int) (edgesV : List (Int × Int)) (R : Bool → Prop) : Prop :=
  ∀ (h : Heap) (gA : Option Addr) (gL gC : Nat), Hp h [Ck.vw eP gA gL gC edgesV] → CallsH Try.prog 19 #[.agg #[.int .i64 g, .slice gA gL gC]] h fun v h' => ∃ (rV : Bool), Sy h [] h' [] ∧ v = .bool rV ∧ R rV
theorem Ok19.mono {g edgesV} {R R' : Bool → Prop} (H : Ok19 g edgesV R) (kz : ∀ rV, R rV → R' rV) : Ok19 g edgesV R' :=
  fun h gA gL gC hp => (H h gA gL gC hp).mono fun _ _ ⟨rV, P, e, q⟩ => ⟨rV, P, e, kz _ q⟩

def T19 (g : Int) (edgesV : List (Int × Int)) (R : Bool → Prop) : Prop :=
  Ok80 (fun r =>
  cnd (!r)
    (R false)
    (∃ Jv : Prop,
    ( cnd (decide (((edgesV.length : Nat) : Int) > (60 : Int)))
       (Ok43 g edgesV (fun r2 =>
       cnd r2
         (R true)
         (Jv)))
       (Jv)) ∧
    (Jv →
    Ok93 g edgesV (fun ra rb =>
    Ok43 g edgesV (fun r3 =>
    cnd (!r3)
      (cnd (rb == (1 : Int))
        (R (((ra.length : Nat) : Int) == (0 : Int)))
        (R false))
      (Ok94 g edgesV (fun r4 =>
      cnd (r4 == (0 : Int))
        (cnd (rb == (14 : Int))
          (R (((ra.length : Nat) : Int) == (0 : Int)))
          (R false))
        (∃ Jv_2 : Prop,
        ( cnd (rb == (0 : Int))
           (cnd (((ra.length : Nat) : Int) == r4)
             (Ok91 g edgesV ra true (fun r5 =>
             cnd r5
               (Ok92 g edgesV ra true (fun r6 =>
               R r6))
               (Jv_2)))
             (Jv_2))
           (Jv_2)) ∧
        (Jv_2 →
        R false)))))))))

theorem ok19 {g edgesV} {R : Bool → Prop} (T : T19 g edgesV R) : Ok19 g edgesV R := by
  intro h gA gL gC H
  have Y : Sy h [] h _ := Sy.startM H rfl
  obtain rfl := Y.lenV 0 rfl
  apply calls19
  unfold S19
  unfold T19 at T
  intro hv
  have Y : Sy _ _ hv [_, _] := Y.junk _
  clear_value hv
  refine callX_sy (T _ (Hp.nil _)) (fun _ _ ⟨_, p, _⟩ => p.fr) (allc (fun h => by cases h) alln) ?_
  rintro v hv2 ⟨r, PP, rfl, T⟩
  have Y : Sy _ _ hv2 [_, _] := Y.gr PP.fr
  clear PP
  refine ⟨r, rfl, ?_⟩
  refine cnd_imp T (fun T => ?_) (fun T => ?_)
  · exact ⟨_, Y.pick [] rfl, rfl, T⟩
  · obtain ⟨Jv, T0, T1⟩ := T
    obtain ⟨B, hB, _⟩ := Y.cut [] [0, 1] rfl
    intro K
    have hK : ∀  (hv4 : Heap), (Sy h [] hv4 ([] ++ B) ∧ Jv) → K hv4 := by
      subst hB
      clear T0 Y
      rintro hv4 ⟨Y, T⟩
      replace T := T1 T
      have Y : Sy _ _ _ [_, _] := Y
      unfold K
      refine callX_sy (T _ _ _ _ (Y.pick [0] rfl).hp) (fun _ _ ⟨_, _, _, _, _, p, _⟩ => p.fr) (allc (fun h => by cases h) alln) ?_
      rintro v3 hv5 ⟨raA, raL, raC, ra, rb, PP, rfl, T⟩
      have Y : Sy _ _ hv5 [_, _, _] := Y.callV PP ⟨rfl, trivial⟩
      clear PP
      obtain rfl := Y.lenS 2 rfl
      refine ⟨_, _, _, rb, rfl, ?_⟩
      refine callX_sy (T _ _ _ _ (Y.pick [0] rfl).hp) (fun _ _ ⟨_, p, _⟩ => p.fr) (allc (fun h => by cases h) alln) ?_
      rintro v4 hv6 ⟨r3, PP, rfl, T⟩
      have Y : Sy _ _ hv6 [_, _, _] := Y.gr PP.fr
      clear PP
      refine ⟨r3, rfl, ?_⟩
      refine cnd_imp T (fun T => ?_) (fun T => ?_)
      · refine cnd_imp T (fun T => ?_) (fun T => ?_)
        · exact ⟨_, Y.pick [] rfl, rfl, T⟩
        · exact ⟨_, Y.pick [] rfl, rfl, T⟩
      · refine callX_sy (T _ _ _ _ (Y.pick [0] rfl).hp) (fun _ _ ⟨_, p, _⟩ => p.fr) (allc (fun h => by cases h) alln) ?_
        rintro v5 hv7 ⟨r4, PP, rfl, T⟩
        have Y : Sy _ _ hv7 [_, _, _] := Y.gr PP.fr
        clear PP
        refine ⟨r4, rfl, ?_⟩
        refine cnd_imp T (fun T => ?_) (fun T => ?_)
        · refine cnd_imp T (fun T => ?_) (fun T => ?_)
          · exact ⟨_, Y.pick [] rfl, rfl, T⟩
          · exact ⟨_, Y.pick [] rfl, rfl, T⟩
        · obtain ⟨Jv_2, T0, T1⟩ := T
          obtain ⟨B_2, hB_2, _⟩ := Y.cut [] [0, 1, 2] rfl
          intro K2
          have hK2 : ∀  (hv10 : Heap), (Sy h [] hv10 ([] ++ B_2) ∧ Jv_2) → K2 hv10 := by
            subst hB_2
            clear T0 Y
            rintro hv10 ⟨Y, T⟩
            replace T := T1 T
            have Y : Sy _ _ _ [_, _, _] := Y
            unfold K2
            exact ⟨_, Y.pick [] rfl, rfl, T⟩
          subst hB_2
          replace T := T0
          clear T0 T1
          refine cnd_imp T (fun T => ?_) (fun T => ?_)
          · refine cnd_imp T (fun T => ?_) (fun T => ?_)
            · refine callX_sy (T _ _ _ _ _ _ _ ((Y.turn 2 rfl To.slvw).pick [0, 2] rfl).hp) (fun _ _ ⟨_, p, _⟩ => p.fr) (allc (fun h => by cases h) alln) ?_
              rintro v6 hv8 ⟨r5, PP, rfl, T⟩
              have Y : Sy _ _ hv8 [_, _, _] := Y.gr PP.fr
              clear PP
              refine ⟨r5, rfl, ?_⟩
              refine cnd_imp T (fun T => ?_) (fun T => ?_)
              · refine callX_sy (T _ _ _ _ _ _ _ ((Y.turn 2 rfl To.slvw).pick [0, 2] rfl).hp) (fun _ _ ⟨_, p, _⟩ => p.fr) (allc (fun h => by cases h) alln) ?_
                rintro v7 hv9 ⟨r6, PP, rfl, T⟩
                have Y : Sy _ _ hv9 [_, _, _] := Y.gr PP.fr
                clear PP
                refine ⟨r6, rfl, ?_⟩
                exact ⟨_, Y.pick [] rfl, rfl, T⟩
              · exact hK2 _ ⟨Y.pick [0, 1, 2] rfl, T⟩
            · exact hK2 _ ⟨Y.pick [0, 1, 2] rfl, T⟩
          · exact hK2 _ ⟨Y.pick [0, 1, 2] rfl, T⟩
    subst hB
    replace T := T0
    clear T0 T1
    refine cnd_imp T (fun T => ?_) (fun T => ?_)
    · refine callX_sy (T _ _ _ _ (Y.pick [0] rfl).hp) (fun _ _ ⟨_, p, _⟩ => p.fr) (allc (fun h => by cases h) alln) ?_
      rintro v2 hv3 ⟨r2, PP, rfl, T⟩
      have Y : Sy _ _ hv3 [_, _] := Y.gr PP.fr
      clear PP
      refine ⟨r2, rfl, ?_⟩
      refine cnd_imp T (fun T => ?_) (fun T => ?_)
      · exact ⟨_, Y.pick [] rfl, rfl, T⟩
      · exact hK _ ⟨Y.pick [0, 1] rfl, T⟩
    · exact hK _ ⟨Y.pick [0, 1] rfl, T⟩

end Go.Proofs.Ytmcloipjlihhlaa.N
