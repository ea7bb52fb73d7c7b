/- Functions: what is left to be shown of each, over memory and without: printed by program, tied to the loaded functions by the kernel. Conditions: none. -/
import Derived.Test.YtmcloipjlihhlaaSEnv
import Derived.Test.YtmcloipjlihhlaaYMore
import Derived.Test.YtmcloipjlihhlaaTNet
namespace Go.Proofs.Ytmcloipjlihhlaa.N
open Go.Proofs.Ytmcloipjlihhlaa
open Go.X
set_option maxRecDepth 100000
set_option linter.unusedVariables false
set_option linter.unusedSimpArgs false
set_option maxHeartbeats 2000000

/-- tracery/net.May -/
def S140 (g : Int) (gA : Option Addr) (gL gC : Nat) (h : Heap) (R : Value → Heap → Prop) : Prop :=
  let hv : Heap := h.push (.cells #[.int .i64 g, .slice gA gL gC] 26)
  let K := fun (hv2 : Heap) =>
    (R (.bool false) hv2)
  cnd (decide (g < (0 : Int)))
    (K hv)
    (cnd (decide (g > (1024 : Int)))
      (K hv)
      (cnd (decide (((gL : Nat) : Int) > (3072 : Int)))
        (R (.bool false) hv)
        (∃ (Iv : List Value → Heap → Prop) (m : List Value → Heap → Nat), Iv [.int .i64 0] hv ∧ -- loop 0: ['24']
        ∀ x : Int, ∀ hv3, Iv [.int .i64 x] hv3 →
        cnd (decide (x < ((gL : Nat) : Int)))
          (∃ b o, gA = some ⟨b, o, none⟩ ∧ 0 ≤ x ∧ x < (gL : Nat) ∧ ∃ x2 : Int, hcell hv3 b (o + (Int.toNat x) * 2) = some (.int .i64 x2) ∧ ∃ x3 : Int, hcell hv3 b ((o + (Int.toNat x) * 2) + 1) = some (.int .i64 x3) ∧ let hv4 : Heap := hv3.push (.cells #[.int .i64 0, .int .i64 0] 35)
          let hv5 : Heap := hset (hset hv4 hv3.size 0 (.int .i64 x2)) hv3.size (0 + 1) (.int .i64 x3)
          ∃ (Iv2 : List Value → Heap → Prop) (m2 : List Value → Heap → Nat), Iv2 [.int .i64 0] hv5 ∧ -- loop 2: ['29']
          ∀ x4 : Int, ∀ hv6, Iv2 [.int .i64 x4] hv6 →
          cnd (decide (x4 < (2 : Int)))
            (0 ≤ x4 ∧ x4 < ((2 : Nat) : Int) ∧ ∃ x5 : Int, (#[.int .i64 x2, .int .i64 x3] : Array Value)[Int.toNat x4]? = some (.int .i64 x5) ∧ cnd (decide (x5 < (0 : Int)))
              (R (.bool false) hv6)
              (cnd (decide (x5 ≥ g))
                (R (.bool false) hv6)
                (Iv2 [.int .i64 (IntKind.i64.wrap (x4 + (1 : Int)))] hv6 ∧ m2 [.int .i64 (IntKind.i64.wrap (x4 + (1 : Int)))] hv6 < m2 [.int .i64 x4] hv6)))
            (Iv [.int .i64 (IntKind.i64.wrap (x + (1 : Int)))] hv6 ∧ m [.int .i64 (IntKind.i64.wrap (x + (1 : Int)))] hv6 < m [.int .i64 x] hv3))
          (R (.bool true) hv3))))
theorem calls140 {h : Heap} {R : Value → Heap → Prop} (g : Int) (gA : Option Addr) (gL gC : Nat) (H : S140 g gA gL gC h R) : CallsH Try.prog 140 #[.agg #[.int .i64 g, .slice gA gL gC]] h R := by
  have e : S140 g gA gL gC h R = FX (envX [1, 4] 42) { loops := [(0, ⟨[1, 22, 23], [24], [1], []⟩), (2, ⟨[1, 22, 23, 24, 28], [29], [1], []⟩)], joins := [], blocks := [], draws := [] } Try.f140 (Try.f140.body.getD .skip) [.agg #[.int .i64 g, .slice gA gL gC]] h R := by kernel_rfl
  exact calls_of_FX (envX_ok _ _) Try.func140 (by kernel_rfl) (by kernel_rfl) (by kernel_rfl) (e ▸ H)
/-- tracery/net.May -/
def Ok140 (g : Int) (edgesV : List (Int × Int)) (R : Bool → Prop) : Prop :=
  ∀ (h : Heap) (gA : Option Addr) (gL gC : Nat), Hp h [Ck.vw eP gA gL gC edgesV] → CallsH Try.prog 140 #[.agg #[.int .i64 g, .slice gA gL gC]] h fun v h' => ∃ (rV : Bool), Sy h [] h' [] ∧ v = .bool rV ∧ R rV
theorem Ok140.mono {g edgesV} {R R' : Bool → Prop} (H : Ok140 g edgesV R) (kz : ∀ rV, R rV → R' rV) : Ok140 g edgesV R' :=
  fun h gA gL gC hp => (H h gA gL gC hp).mono fun _ _ ⟨rV, P, e, q⟩ => ⟨rV, P, e, kz _ q⟩
def T140 (g : Int) (edgesV : List (Int × Int)) (R : Bool → Prop) : Prop :=
  ∃ Jv : Prop,
  ( cnd (decide (g < (0 : Int)))
     (Jv)
     (cnd (decide (g > (1024 : Int)))
       (Jv)
       (cnd (decide (((edgesV.length : Nat) : Int) > (3072 : Int)))
         (R false)
         (∃ (Iv : Int → Prop) (m : Int → Nat), Iv 0 ∧
         ∀ x : Int, Iv x →
         cnd (decide (x < ((edgesV.length : Nat) : Int)))
           (0 ≤ x ∧ x < ((edgesV.length : Nat) : Int) ∧ ∀ g_2 : (Int × Int), edgesV[(Int.toNat x)]? = some g_2 → ∃ (Iv2 : Int → Prop) (m2 : Int → Nat), Iv2 0 ∧
           ∀ x4 : Int, Iv2 x4 →
           cnd (decide (x4 < (2 : Int)))
             (0 ≤ x4 ∧ x4 < ((2 : Nat) : Int) ∧ ∃ x5 : Int, (#[.int .i64 g_2.1, .int .i64 g_2.2] : Array Value)[Int.toNat x4]? = some (.int .i64 x5) ∧ cnd (decide (x5 < (0 : Int)))
               (R false)
               (cnd (decide (x5 ≥ g))
                 (R false)
                 (Iv2 (IntKind.i64.wrap (x4 + (1 : Int))) ∧ m2 (IntKind.i64.wrap (x4 + (1 : Int))) < m2 x4)))
             (Iv (IntKind.i64.wrap (x + (1 : Int))) ∧ m (IntKind.i64.wrap (x + (1 : Int))) < m x))
           (R true))))) ∧
  (Jv →
  R false)
theorem ok140 {g edgesV} {R : Bool → Prop} (T : T140 g edgesV R) : Ok140 g edgesV R := by
  intro h gA gL gC H
  have Y : Sy h [] h _ := Sy.startM H rfl
  obtain rfl := Y.lenV 0 rfl
  apply calls140
  unfold S140
  unfold T140 at T
  intro hv
  have Y : Sy _ _ hv [_, _] := Y.junk _
  clear_value hv
  obtain ⟨Jv, T0, T1⟩ := T
  obtain ⟨B, hB, _⟩ := Y.cut [] [0, 1] rfl
  intro K
  have hK : ∀  (hv2 : Heap), (Sy h [] hv2 ([] ++ B) ∧ Jv) → K hv2 := by
    subst hB
    clear T0 Y
    rintro hv2 ⟨Y, T⟩
    replace T := T1 T
    have Y : Sy _ _ _ [_, _] := Y
    unfold K
    exact ⟨_, Y.pick [] rfl, rfl, T⟩
  subst hB
  replace T := T0
  clear T0 T1
  refine cnd_imp T (fun T => ?_) (fun T => ?_)
  · exact hK _ ⟨Y.pick [0, 1] rfl, T⟩
  · refine cnd_imp T (fun T => ?_) (fun T => ?_)
    · exact hK _ ⟨Y.pick [0, 1] rfl, T⟩
    · refine cnd_imp T (fun T => ?_) (fun T => ?_)
      · exact ⟨_, Y.pick [] rfl, rfl, T⟩
      · obtain ⟨Iv, m, T0, T1⟩ := T
        obtain ⟨B_2, hB_2, YB⟩ := Y.cut [] [0, 1] rfl
        obtain ⟨JJ, hJJ⟩ : ∃ JJ : Nat → List Value → Heap → Prop, JJ = (fun k lz h' => ∃ (x : Int), lz = [.int .i64 x] ∧ Sy h [] h' ([] ++ B_2) ∧ Iv x ∧ m x = k) := ⟨_, rfl⟩
        refine ⟨fun lz h' => ∃ k, JJ k lz h', Lm JJ, ?_, ?_⟩
        · subst hJJ hB_2
          exact ⟨_, _, rfl, YB, T0, rfl⟩
        · clear YB T0 Y
          intro x hv3 hI
          obtain ⟨k, hI, hm⟩ := loopIn hI
          subst hJJ hB_2
          obtain ⟨x, e, Y, T, rfl⟩ := hI
          cases e
          replace T := T1 x T
          have Y : Sy _ _ _ [_, _] := Y
          refine cnd_imp T (fun T => ?_) (fun T => ?_)
          · obtain ⟨q, q_2, T⟩ := T
            obtain ⟨b_2, o_2, hb, hr, g_2, hx⟩ := Y.atV 0 rfl q q_2
            refine ⟨b_2, o_2, hb, q, q_2, ?_⟩
            replace T := T g_2 hx
            refine ⟨_, Y.cellV 0 rfl hb (t := 0) hx rfl, ?_⟩
            refine ⟨_, Y.cellV 0 rfl hb (t := 1) hx rfl, ?_⟩
            intro hv4
            have Y : Sy _ _ hv4 [_, _, _] := Y.junk _
            clear_value hv4
            intro hv5
            have Y : Sy _ _ hv5 [_, _, _] := ((Y.stJ 2 rfl _ _).stJ 2 rfl _ _)
            clear_value hv5
            obtain ⟨Iv2, m2, T0, T1⟩ := T
            obtain ⟨B_3, hB_3, YB⟩ := Y.cut [] [0, 1, 2] rfl
            obtain ⟨JJ_2, hJJ_2⟩ : ∃ JJ_2 : Nat → List Value → Heap → Prop, JJ_2 = (fun k_2 lz h' => ∃ (x4 : Int), lz = [.int .i64 x4] ∧ Sy h [] h' ([] ++ B_3) ∧ Iv2 x4 ∧ m2 x4 = k_2) := ⟨_, rfl⟩
            refine ⟨fun lz h' => ∃ k_2, JJ_2 k_2 lz h', Lm JJ_2, ?_, ?_⟩
            · subst hJJ_2 hB_3
              exact ⟨_, _, rfl, YB, T0, rfl⟩
            · clear YB T0 Y
              intro x4 hv6 hI
              obtain ⟨k_2, hI, hm_2⟩ := loopIn hI
              subst hJJ_2 hB_3
              obtain ⟨x4, e, Y, T, rfl⟩ := hI
              cases e
              replace T := T1 x4 T
              have Y : Sy _ _ _ [_, _, _] := Y
              refine cnd_imp T (fun T => ?_) (fun T => ?_)
              · obtain ⟨q_3, q_4, x5, q_5, T⟩ := T
                refine ⟨q_3, q_4, x5, q_5, ?_⟩
                refine cnd_imp T (fun T => ?_) (fun T => ?_)
                · exact ⟨_, Y.pick [] rfl, rfl, T⟩
                · refine cnd_imp T (fun T => ?_) (fun T => ?_)
                  · exact ⟨_, Y.pick [] rfl, rfl, T⟩
                  · exact loopBack hm_2 ⟨_, rfl, Y.pick [0, 1, 2] rfl, T.1, rfl⟩ T.2
              · exact loopBack hm ⟨_, rfl, Y.pick [0, 1] rfl, T.1, rfl⟩ T.2
          · exact ⟨_, Y.pick [] rfl, rfl, T⟩
end Go.Proofs.Ytmcloipjlihhlaa.N
