/- Functions: what is left to be shown of each, over memory and without: printed by program, tied to the loaded functions by the kernel. Conditions: none. -/
import Derived.Test.YtmcloipjlihhlaaSEnv
import Derived.Test.YtmcloipjlihhlaaYMore
import Derived.Test.YtmcloipjlihhlaaTNet
namespace Go.Proofs.Ytmcloipjlihhlaa.N
open Go.Proofs.Ytmcloipjlihhlaa
open Go.X
set_option maxRecDepth 100000
set_option linter.unusedVariables false
set_option linter.unusedSimpArgs false
set_option maxHeartbeats 2000000

/-- tracery/net.May -/
def S140 (g : Int) (gA : Option Addr) (gL gC : Nat) (h : Heap) (R : Value → Heap → Prop) : Prop :=
  let hv : Heap := h.push (.cells #[.int .i64 g, .slice gA gL gC] 26)
  let K := fun (hv2 : Heap) =>
    (R (.bool false) hv2)
  cnd (decide (g < (0 : Int)))
    (K hv)
    (cnd (decide (g > (1024 : Int)))
      (K hv)
      (cnd (decide (((gL : Nat) : Int) > (3072 : Int)))
        (R (.bool false) hv)
        (∃ (Iv : List Value → Heap → Prop) (m : List Value → Heap → Nat), Iv [.int .i64 0] hv ∧ -- loop 0: ['24']
        ∀ x : Int, ∀ hv3, Iv [.int .i64 x] hv3 →
        cnd (decide (x < ((gL : Nat) : Int)))
          (∃ b o, gA = some ⟨b, o, none⟩ ∧ 0 ≤ x ∧ x < (gL : Nat) ∧ ∃ x2 : Int, hcell hv3 b (o + (Int.toNat x) * 2) = some (.int .i64 x2) ∧ ∃ x3 : Int, hcell hv3 b ((o + (Int.toNat x) * 2) + 1) = some (.int .i64 x3) ∧ let hv4 : Heap := hv3.push (.cells #[.int .i64 0, .int .i64 0] 35)
          let hv5 : Heap := hset (hset hv4 hv3.size 0 (.int .i64 x2)) hv3.size (0 + 1) (.int .i64 x3)
          ∃ (Iv2 : List Value → Heap → Prop) (m2 : List Value → Heap → Nat), Iv2 [.int .i64 0] hv5 ∧ -- loop 2: ['29']
          ∀ x4 : Int, ∀ hv6, Iv2 [.int .i64 x4] hv6 →
          cnd (decide (x4 < (2 : Int)))
            (0 ≤ x4 ∧ x4 < ((2 : Nat) : Int) ∧ ∃ x5 : Int, (#[.int .i64 x2, .int .i64 x3] : Array Value)[Int.toNat x4]? = some (.int .i64 x5) ∧ cnd (decide (x5 < (0 : Int)))
              (R (.bool false) hv6)
              (cnd (decide (x5 ≥ g))
                (R (.bool false) hv6)
                (Iv2 [.int .i64 (IntKind.i64.wrap (x4 + (1 : Int)))] hv6 ∧ m2 [.int .i64 (IntKind.i64.wrap (x4 + (1 : Int)))] hv6 < m2 [.int .i64 x4] hv6)))
            (Iv [.int .i64 (IntKind.i64.wrap (x + (1 : Int)))] hv6 ∧ m [.int .i64 (IntKind.i64.wrap (x + (1 : Int)))] hv6 < m [.int .i64 x] hv3))
          (R (.bool true) hv3))))

theorem calls140 {h : Heap} {R : Value → Heap → Prop} (g : Int) (gA : Option Addr) (gL gC : Nat) (H : S140 g gA gL gC h R) : CallsH Try.prog 140 #[.agg #[.int .i64 g, .slice gA gL gC]] h R := by
  have e : S140 g gA gL gC h R = FX (envX [1, 4] 42) { loops := [(0, ⟨[1, 22, 23], [24], [1], []⟩), (2, ⟨[1, 22, 23, 24, 28], [29], [1], []⟩)], joins := [], blocks := [], draws := [] } Try.f140 (Try.f140.body.getD .skip) [.agg #[.int .i64 g, .slice gA gL gC]] h R := by kernel_rfl
  exact calls_of_FX (envX_ok _ _) Try.func140 (by kernel_rfl) (by kernel_rfl) (by kernel_rfl) (e ▸ H)

/-- tracery/net.May -/
def Ok140 (g : Int) (edgesV : List (Int × Int)) (R : Bool → Prop) : Prop :=
  ∀ (h : Heap) (gA : Option Addr) (gL gC : Nat), Hp h [Ck.vw eP gA gL gC edgesV] → CallsH Try.prog 140 #[.agg #[.int .i64 g, .slice gA gL gC]] h fun v h' => ∃ (rV : Bool), Sy h [] h' [] ∧ v = .bool rV ∧ R rV
theorem Ok140.mono {g edgesV} {R R' : Bool → Prop} (H : Ok140 g edgesV R) (kz : ∀ rV, R rV → R' rV) : Ok140 g edgesV R' :=
  fun h gA gL gC hp => (H h gA gL gC hp).mono fun _ _ ⟨rV, P, e, q⟩ => ⟨rV, P, e, kz _ q⟩

def T140 (g : Int) (edgesV : List (Int × Int)) (R : Bool → Prop) : Prop :=
  ∃ Jv : Prop,
  ( cnd (decide (g < (0 : Int)))
     (Jv)
     (cnd (decide (g > (1024 : Int)))
       (Jv)
       (cnd (decide (((edgesV.length : Nat) : Int) > (3072 : Int)))
         (R false)
         (∃ (Iv : Int → Prop) (m : Int → Nat), Iv 0 ∧
         ∀ x : Int, Iv x →
         cnd (decide (x < ((edgesV.length : Nat) : Int)))
           (0 ≤ x ∧ x < ((edgesV.length : Nat) : Int) ∧ ∀ g_2 : (Int × Int), edgesV[(Int.toNat x)]? = some g_2 → ∃ (Iv2 : Int → Prop) (m2 : Int → Nat), Iv2 0 ∧
           ∀ x4 : Int, Iv2 x4 →
           cnd (decide (x4 < (2 : Int)))
             (0 ≤ x4 ∧ x4 < ((2 : Nat) : Int) ∧ ∃ x5 : Int, (#[.int .i64 g_2.1, .int .i64 g_2.2] : Array Value)[Int.toNat x4]? = some (.int .i64 x5) ∧ cnd (decide (x5 < (0 : Int)))
               (R false)
               (cnd (decide (x5 ≥ g))
                 (R false)
                 (Iv2 (IntKind.i64.wrap (x4 + (1 : Int))) ∧ m2 (IntKind.i64.wrap (x4 + (1 : Int))) < m2 x4)))
             (Iv (IntKind.i64.wrap (x + (1 : Int))) ∧ m (IntKind.i64.wrap (x + (1 : Int))) < m x))
           (R true))))) ∧
  (Jv →
  R false)

theorem ok140 {g edgesV} {R : Bool → Prop} (T : T140 g edgesV R) : Ok140 g edgesV R := by
  intro h gA gL gC H
  have Y : Sy h [] h _ := Sy.startM H rfl
  obtain rfl := Y.lenV 0 rfl
  apply calls140
  unfold S140
  unfold T140 at T
  intro hv
  have Y : Sy _ _ hv [_, _] := Y.junk _
  clear_value hv
  obtain ⟨Jv, T0, T1⟩ := T
  obtain ⟨B, hB, _⟩ := Y.cut [] [0, 1] rfl
  intro K
  have hK : ∀  (hv2 : Heap), (Sy h [] hv2 ([] ++ B) ∧ Jv) → K hv2 := by
    subst hB
    clear T0 Y
    rintro hv2 ⟨Y, T⟩
    replace T := T1 T
    have Y : Sy _ _ _ [_, _] := Y
    unfold K
    exact ⟨_, Y.pick [] rfl, rfl, T⟩
  subst hB
  replace T := T0
  clear T0 T1
  refine cnd_imp T (fun T => ?_) (fun T => ?_)
  · exact hK _ ⟨Y.pick [0, 1] rfl, T⟩
  · refine cnd_imp T (fun T => ?_) (fun T => ?_)
    · exact hK _ ⟨Y.pick [0, 1] rfl, T⟩
    · refine cnd_imp T (fun T => ?_) (fun T => ?_)
      · exact ⟨_, Y.pick [] rfl, rfl, T⟩
      · obtain ⟨Iv, m, T0, T1⟩ := T
        obtain ⟨B_2, hB_2, YB⟩ := Y.cut [] [0, 1] rfl
        obtain ⟨JJ, hJJ⟩ : ∃ JJ : Nat → List Value → Heap → Prop, JJ = (fun k lz h' => ∃ (x : Int), lz = [.int .i64 x] ∧ Sy h [] h' ([] ++ B_2) ∧ Iv x ∧ m x = k) := ⟨_, rfl⟩
        refine ⟨fun lz h' => ∃ k, JJ k lz h', Lm JJ, ?_, ?_⟩
        · subst hJJ hB_2
          exact ⟨_, _, rfl, YB, T0, rfl⟩
        · clear YB T0 Y
          intro x hv3 hI
          obtain ⟨k, hI, hm⟩ := loopIn hI
          subst hJJ hB_2
          obtain ⟨x, e, Y, T, rfl⟩ := hI
          cases e
          replace T := T1 x T
          have Y : Sy _ _ _ [_, _] := Y
          refine cnd_imp T (fun T => ?_) (fun T => ?_)
          · obtain ⟨q, q_2, T⟩ := T
            obtain ⟨b_2, o_2, hb, hr, g_2, hx⟩ := Y.atV 0 rfl q q_2
            refine ⟨b_2, o_2, hb, q, q_2, ?_⟩
            replace T := T g_2 hx
            refine ⟨_, Y.cellV 0 rfl hb (t := 0) hx rfl, ?_⟩
            refine ⟨_, Y.cellV 0 rfl hb (t := 1) hx rfl, ?_⟩
            intro hv4
            have Y : Sy _ _ hv4 [_, _, _] := Y.junk _
            clear_value hv4
            intro hv5
            have Y : Sy _ _ hv5 [_, _, _] := ((Y.stJ 2 rfl _ _).stJ 2 rfl _ _)
            clear_value hv5
            obtain ⟨Iv2, m2, T0, T1⟩ := T
            obtain ⟨B_3, hB_3, YB⟩ := Y.cut [] [0, 1, 2] rfl
            obtain ⟨JJ_2, hJJ_2⟩ : ∃ JJ_2 : Nat → List Value → Heap → Prop, JJ_2 = (fun k_2 lz h' => ∃ (x4 : Int), lz = [.int .i64 x4] ∧ Sy h [] h' ([] ++ B_3) ∧ Iv2 x4 ∧ m2 x4 = k_2) := ⟨_, rfl⟩
            refine ⟨fun lz h' => ∃ k_2, JJ_2 k_2 lz h', Lm JJ_2, ?_, ?_⟩
            · subst hJJ_2 hB_3
              exact ⟨_, _, rfl, YB, T0, rfl⟩
            · clear YB T0 Y
              intro x4 hv6 hI
              obtain ⟨k_2, hI, hm_2⟩ := loopIn hI
              subst hJJ_2 hB_3
              obtain ⟨x4, e, Y, T, rfl⟩ := hI
              cases e
              replace T := T1 x4 T
              have Y : Sy _ _ _ [_, _, _] := Y
              refine cnd_imp T (fun T => ?_) (fun T => ?_)
              · obtain ⟨q_3, q_4, x5, q_5, T⟩ := T
                refine ⟨q_3, q_4, x5, q_5, ?_⟩
                refine cnd_imp T (fun T => ?_) (fun T => ?_)
                · exact ⟨_, Y.pick [] rfl, rfl, T⟩
                · refine cnd_imp T (fun T => ?_) (fun T => ?_)
                  · exact ⟨_, Y.pick [] rfl, rfl, T⟩
                  · exact loopBack hm_2 ⟨_, rfl, Y.pick [0, 1, 2] rfl, T.1, rfl⟩ T.2
              · exact loopBack hm ⟨_, rfl, Y.pick [0, 1] rfl, T.1, rfl⟩ T.2
          · exact ⟨_, Y.pick [] rfl, rfl, T⟩

/-- tracery/tutte.outs -/
def S141 (g : Int) (gA : Option Addr) (gL gC : Nat) (h : Heap) (R : Value → Heap → Prop) : Prop :=
  let hv : Heap := h.push (.cells #[.int .i64 g, .slice gA gL gC] 26)
  0 ≤ g ∧ g ≤ g ∧ ((24 : Nat) : Int) * g ≤ 281474976710656 ∧ g ≤ 9223372036854775807 ∧ let hv2 : Heap := hv.push (.cells (madeCells (List.toArray [.slice none 0 0]) (Int.toNat g * 1)) 40)
  ∃ (Iv : List Value → Heap → Prop) (m : List Value → Heap → Nat), Iv [.int .i64 0] hv2 ∧ -- loop 0: ['14']
  ∀ x : Int, ∀ hv3, Iv [.int .i64 x] hv3 →
  cnd (decide (x < ((gL : Nat) : Int)))
    (∃ b o, gA = some ⟨b, o, none⟩ ∧ 0 ≤ x ∧ x < (gL : Nat) ∧ ∃ x2 : Int, hcell hv3 b (o + (Int.toNat x) * 2) = some (.int .i64 x2) ∧ ∃ x3 : Int, hcell hv3 b ((o + (Int.toNat x) * 2) + 1) = some (.int .i64 x3) ∧ let hv4 : Heap := hv3.push (.cells #[.int .i64 0, .int .i64 0] 35)
    let hv5 : Heap := hset (hset hv4 hv3.size 0 (.int .i64 x2)) hv3.size (0 + 1) (.int .i64 x3)
    ∃ (Iv2 : List Value → Heap → Prop) (m2 : List Value → Heap → Nat), Iv2 [.int .i64 0] hv5 ∧ -- loop 2: ['20']
    ∀ x4 : Int, ∀ hv6, Iv2 [.int .i64 x4] hv6 →
    cnd (decide (x4 < (2 : Int)))
      (0 ≤ x4 ∧ x4 < ((2 : Nat) : Int) ∧ ∃ x5 : Int, (#[.int .i64 x2, .int .i64 x3] : Array Value)[Int.toNat x4]? = some (.int .i64 x5) ∧ ∃ b2 o2, (some (⟨hv.size, 0, none⟩ : Addr)) = some ⟨b2, o2, none⟩ ∧ 0 ≤ x5 ∧ x5 < ((Int.toNat g) : Nat) ∧ ∃ (xA : Option Addr) (xL xC : Nat), hcell hv6 b2 (o2 + (Int.toNat x5) * 1) = some (.slice xA xL xC) ∧ let hv7 : Heap := hv6.push (.cells #[.int .i64 (IntKind.i64.wrap ((IntKind.i64.wrap ((2 : Int) * x)) + x4))] 3)
      ∃ old, Own hv7 3 1 xA xL xC old ∧ (∀ b ∈ ([hv6.size] : List Nat), b ∉ blkOf xA) ∧ (xL + 1) * 8 ≤ 140737488355328 ∧ (xL + 1) ≤ maxLen ∧
      ∀ sA sC hv8, Own hv8 3 1 sA (xL + 1) sC (old ++ [.int .i64 (IntKind.i64.wrap ((IntKind.i64.wrap ((2 : Int) * x)) + x4))]) → Fr (blkOf xA) hv7 hv8 → ((sA = xA ∧ sC = xC) ∨ ∃ g, sA = some ⟨g, 0, none⟩ ∧ hv7.size ≤ g) → (xC < (xL + 1) → Fr [] hv7 hv8) →
      ∃ b3 o3, (some (⟨hv.size, 0, none⟩ : Addr)) = some ⟨b3, o3, none⟩ ∧ 0 ≤ x5 ∧ x5 < ((Int.toNat g) : Nat) ∧ b3 ≠ hv6.size ∧ (∃ u, hcell hv8 b3 (o3 + (Int.toNat x5) * 1) = some u) ∧ hfree hv8 b3 (o3 + (Int.toNat x5) * 1) = true ∧ let hv9 : Heap := hset hv8 b3 (o3 + (Int.toNat x5) * 1) (.slice sA (xL + 1) sC)
      Iv2 [.int .i64 (IntKind.i64.wrap (x4 + (1 : Int)))] hv9 ∧ m2 [.int .i64 (IntKind.i64.wrap (x4 + (1 : Int)))] hv9 < m2 [.int .i64 x4] hv6)
      (Iv [.int .i64 (IntKind.i64.wrap (x + (1 : Int)))] hv6 ∧ m [.int .i64 (IntKind.i64.wrap (x + (1 : Int)))] hv6 < m [.int .i64 x] hv3))
    (R (.slice (some (⟨hv.size, 0, none⟩ : Addr)) (Int.toNat g) (Int.toNat g)) hv3)

theorem calls141 {h : Heap} {R : Value → Heap → Prop} (g : Int) (gA : Option Addr) (gL gC : Nat) (H : S141 g gA gL gC h R) : CallsH Try.prog 141 #[.agg #[.int .i64 g, .slice gA gL gC]] h R := by
  have e : S141 g gA gL gC h R = FX (envX [1, 5, 34] 40) { loops := [(0, ⟨[3, 12, 13], [14], [], []⟩), (2, ⟨[3, 4, 12, 13, 14, 19], [20], [], []⟩)], joins := [], blocks := [], draws := [] } Try.f141 (Try.f141.body.getD .skip) [.agg #[.int .i64 g, .slice gA gL gC]] h R := by kernel_rfl
  exact calls_of_FX (envX_ok _ _) Try.func141 (by kernel_rfl) (by kernel_rfl) (by kernel_rfl) (e ▸ H)

/-- tracery/tutte.outs -/
def Ok141 (g : Int) (edgesV : List (Int × Int)) (R : List (List Int) → Prop) : Prop :=
  ∀ (h : Heap) (gA : Option Addr) (gL gC : Nat), Hp h [Ck.vw eP gA gL gC edgesV] → CallsH Try.prog 141 #[.agg #[.int .i64 g, .slice gA gL gC]] h fun v h' => ∃ (rVA : Option Addr) (rVL rVC : Nat) (rH : List RowH) (rV : List (List Int)), Sy h [] h' [Ck.rows eI 40 3 rVA rVL rVC rH rV] ∧ v = .slice rVA rVL rVC ∧ R rV
theorem Ok141.mono {g edgesV} {R R' : List (List Int) → Prop} (H : Ok141 g edgesV R) (kz : ∀ rV, R rV → R' rV) : Ok141 g edgesV R' :=
  fun h gA gL gC hp => (H h gA gL gC hp).mono fun _ _ ⟨rVA, rVL, rVC, rH, rV, P, e, q⟩ => ⟨rVA, rVL, rVC, rH, rV, P, e, kz _ q⟩

def T141 (g : Int) (edgesV : List (Int × Int)) (R : List (List Int) → Prop) : Prop :=
  0 ≤ g ∧ g ≤ 1000000000000 ∧ ∃ (Iv : Int → List (List Int) → Prop) (m : Int → List (List Int) → Nat), Iv 0 (List.replicate (Int.toNat g) []) ∧
  ∀ x : Int, ∀ x_2 : List (List Int), Iv x x_2 →
  cnd (decide (x < ((edgesV.length : Nat) : Int)))
    (0 ≤ x ∧ x < ((edgesV.length : Nat) : Int) ∧ ∀ g_2 : (Int × Int), edgesV[(Int.toNat x)]? = some g_2 → ∃ (Iv2 : Int → List (List Int) → Prop) (m2 : Int → List (List Int) → Nat), Iv2 0 x_2 ∧
    ∀ x4 : Int, ∀ x_2_2 : List (List Int), Iv2 x4 x_2_2 →
    cnd (decide (x4 < (2 : Int)))
      (0 ≤ x4 ∧ x4 < ((2 : Nat) : Int) ∧ ∃ x5 : Int, (#[.int .i64 g_2.1, .int .i64 g_2.2] : Array Value)[Int.toNat x4]? = some (.int .i64 x5) ∧ 0 ≤ x5 ∧ x5 < (((Int.toNat g) : Nat) : Int) ∧ ∀ x_3 : List Int, x_2_2[(Int.toNat x5)]? = some x_3 → (x_3.length + 1) < 1000000000000 ∧ Iv2 (IntKind.i64.wrap (x4 + (1 : Int))) (x_2_2.set (Int.toNat x5) (x_3 ++ [(IntKind.i64.wrap ((IntKind.i64.wrap ((2 : Int) * x)) + x4))])) ∧ m2 (IntKind.i64.wrap (x4 + (1 : Int))) (x_2_2.set (Int.toNat x5) (x_3 ++ [(IntKind.i64.wrap ((IntKind.i64.wrap ((2 : Int) * x)) + x4))])) < m2 x4 x_2_2)
      (Iv (IntKind.i64.wrap (x + (1 : Int))) x_2_2 ∧ m (IntKind.i64.wrap (x + (1 : Int))) x_2_2 < m x x_2))
    (R x_2)

theorem ok141 {g edgesV} {R : List (List Int) → Prop} (T : T141 g edgesV R) : Ok141 g edgesV R := by
  intro h gA gL gC H
  have Y : Sy h [] h _ := Sy.startM H rfl
  obtain rfl := Y.lenV 0 rfl
  apply calls141
  unfold S141
  unfold T141 at T
  intro hv
  have Y : Sy _ _ hv [_, _] := Y.junk _
  clear_value hv
  obtain ⟨q, q_3, T⟩ := T
  refine ⟨q, Int.le_refl _, by omega, by omega, ?_⟩
  intro hv2
  have Y : Sy _ _ hv2 [_, _, _] := Y.mkR (ty := 40) eI 3 (Int.toNat g) (Int.toNat g) (Nat.le_refl _) (by simp [maxLen]; omega)
  clear_value hv2
  obtain ⟨Iv, m, T0, T1⟩ := T
  obtain ⟨B, hB, YB⟩ := Y.cut [2] [0, 1] rfl
  obtain ⟨F, hF⟩ := Y.fnR (k := 2) rfl
  obtain ⟨JJ, hJJ⟩ : ∃ JJ : Nat → List Value → Heap → Prop, JJ = (fun k lz h' => ∃ (x : Int) (x_2H : List RowH) (x_2 : List (List Int)), lz = [.int .i64 x] ∧ Sy h [] h' ([F x_2H x_2] ++ B) ∧ Iv x x_2 ∧ m x x_2 = k) := ⟨_, rfl⟩
  refine ⟨fun lz h' => ∃ k, JJ k lz h', Lm JJ, ?_, ?_⟩
  · subst hJJ hB hF
    exact ⟨_, _, _, _, rfl, YB, T0, rfl⟩
  · clear YB T0 Y
    intro x hv3 hI
    obtain ⟨k, hI, hm⟩ := loopIn hI
    subst hJJ hB hF
    obtain ⟨x, x_2H, x_2, e, Y, T, rfl⟩ := hI
    cases e
    replace T := T1 x x_2 T
    have Y : Sy _ _ _ [_, _, _] := Y
    refine cnd_imp T (fun T => ?_) (fun T => ?_)
    · obtain ⟨q_4, q_5, T⟩ := T
      obtain ⟨b_2, o_2, hb, hr, g_2, hx⟩ := Y.atV 1 rfl q_4 q_5
      refine ⟨b_2, o_2, hb, q_4, q_5, ?_⟩
      replace T := T g_2 hx
      refine ⟨_, Y.cellV 1 rfl hb (t := 0) hx rfl, ?_⟩
      refine ⟨_, Y.cellV 1 rfl hb (t := 1) hx rfl, ?_⟩
      intro hv4
      have Y : Sy _ _ hv4 [_, _, _, _] := Y.junk _
      clear_value hv4
      intro hv5
      have Y : Sy _ _ hv5 [_, _, _, _] := ((Y.stJ 3 rfl _ _).stJ 3 rfl _ _)
      clear_value hv5
      obtain ⟨Iv2, m2, T0, T1⟩ := T
      obtain ⟨B_2, hB_2, YB⟩ := Y.cut [0] [1, 2, 3] rfl
      obtain ⟨F_2, hF_2⟩ := Y.fnR (k := 0) rfl
      obtain ⟨JJ_2, hJJ_2⟩ : ∃ JJ_2 : Nat → List Value → Heap → Prop, JJ_2 = (fun k_2 lz h' => ∃ (x4 : Int) (x_2_2H : List RowH) (x_2_2 : List (List Int)), lz = [.int .i64 x4] ∧ Sy h [] h' ([F_2 x_2_2H x_2_2] ++ B_2) ∧ Iv2 x4 x_2_2 ∧ m2 x4 x_2_2 = k_2) := ⟨_, rfl⟩
      refine ⟨fun lz h' => ∃ k_2, JJ_2 k_2 lz h', Lm JJ_2, ?_, ?_⟩
      · subst hJJ_2 hB_2 hF_2
        exact ⟨_, _, _, _, rfl, YB, T0, rfl⟩
      · clear YB T0 Y
        intro x4 hv6 hI
        obtain ⟨k_2, hI, hm_2⟩ := loopIn hI
        subst hJJ_2 hB_2 hF_2
        obtain ⟨x4, x_2_2H, x_2_2, e, Y, T, rfl⟩ := hI
        cases e
        replace T := T1 x4 x_2_2 T
        have Y : Sy _ _ _ [_, _, _, _] := Y
        refine cnd_imp T (fun T => ?_) (fun T => ?_)
        · obtain ⟨q_6, q_7, x5, q_8, T⟩ := T
          refine ⟨q_6, q_7, x5, q_8, ?_⟩
          obtain ⟨q_9, q_10, T⟩ := T
          obtain ⟨b_3, hb_2, ho, x_3, hx_2, r, hr_2⟩ := Y.atR 0 rfl q_9 q_10
          refine ⟨b_3, 0, hb_2, q_9, q_10, ?_⟩
          replace T := T x_3 hx_2
          refine ⟨_, _, _, Y.cellR 0 rfl hb_2 hr_2 hx_2, ?_⟩
          intro hv7
          have Y : Sy _ _ hv7 [_, _, _, _, _] := Y.junk _
          clear_value hv7
          have Y : Sy _ _ _ [_, _, _, _, _, _] := Y.takeR 0 rfl hr_2 hx_2
          obtain ⟨q_11, T⟩ := T
          refine ⟨_, Y.ownS 5 rfl, (allc (Y.nJ 5 4 rfl rfl rfl) alln), by first | exact appB q_11 (by decide) | omega, by first | exact appM q_11 | (simp [maxLen]; omega), ?_⟩
          intro sA sC hv8 ow fA gA gB
          have Y : Sy _ _ hv8 [_, _, _, _, _, _] := Y.appS 5 rfl ([(IntKind.i64.wrap ((IntKind.i64.wrap ((2 : Int) * x)) + x4))] : List Int) ow fA gA rfl rfl
          refine ⟨b_3, 0, hb_2, q_9, q_10, ?_⟩
          refine ⟨(Y.neJ 0 4 rfl rfl rfl (memR hb_2)), (Y.cellRX 0 rfl hb_2 (by omega)), Y.freeR 0 rfl hb_2 _, ?_⟩
          intro hv9
          have Y : Sy _ _ hv9 [_, _, _, _, _, _] := Y.putX 0 5 rfl rfl hb_2 rfl (by omega)
          clear_value hv9
          exact loopBack hm_2 ⟨_, _, _, rfl, Y.pick [0, 1, 2, 3] rfl, T.1, rfl⟩ T.2
        · exact loopBack hm ⟨_, _, _, rfl, Y.pick [0, 1, 2] rfl, T.1, rfl⟩ T.2
    · exact ⟨_, _, _, _, _, Y.pick [0] rfl, rfl, T⟩

end Go.Proofs.Ytmcloipjlihhlaa.N
