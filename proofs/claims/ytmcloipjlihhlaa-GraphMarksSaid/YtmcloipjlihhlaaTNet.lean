/- Functions: what is left to be shown of each, over memory and without: printed by program, tied to the loaded functions by the kernel. Conditions: none. -/
import Derived.Test.YtmcloipjlihhlaaSEnv
import Derived.Test.YtmcloipjlihhlaaYMore
namespace Go.Proofs.Ytmcloipjlihhlaa.N
open Go.Proofs.Ytmcloipjlihhlaa
open Go.X
set_option maxRecDepth 100000
set_option linter.unusedVariables false
set_option linter.unusedSimpArgs false
set_option maxHeartbeats 2000000

/-- tracery/traceryref3.Same -/
def S40 (a : Int) (aA : Option Addr) (aL aC : Nat) (b : Int) (bA : Option Addr) (bL bC : Nat) (h : Heap) (R : Value → Heap → Prop) : Prop :=
  let hv : Heap := h.push (.cells #[.int .i64 a, .slice aA aL aC] 26)
  let hv2 : Heap := hv.push (.cells #[.int .i64 b, .slice bA bL bC] 26)
  cnd (a != b)
    (R (.bool false) hv2)
    (cnd (((aL : Nat) : Int) != ((bL : Nat) : Int))
      (R (.bool false) hv2)
      (∃ (Iv : List Value → Heap → Prop) (m : List Value → Heap → Nat), Iv [.int .i64 0] hv2 ∧ -- loop 0: ['i']
      ∀ i : Int, ∀ hv3, Iv [.int .i64 i] hv3 →
      cnd (decide (i < ((aL : Nat) : Int)))
        (∃ b2 o, aA = some ⟨b2, o, none⟩ ∧ 0 ≤ i ∧ i < (aL : Nat) ∧ ∃ x : Int, hcell hv3 b2 (o + (Int.toNat i) * 2) = some (.int .i64 x) ∧ ∃ x2 : Int, hcell hv3 b2 ((o + (Int.toNat i) * 2) + 1) = some (.int .i64 x2) ∧ ∃ b3 o2, bA = some ⟨b3, o2, none⟩ ∧ 0 ≤ i ∧ i < (bL : Nat) ∧ ∃ x3 : Int, hcell hv3 b3 (o2 + (Int.toNat i) * 2) = some (.int .i64 x3) ∧ ∃ x4 : Int, hcell hv3 b3 ((o2 + (Int.toNat i) * 2) + 1) = some (.int .i64 x4) ∧ cnd (!((x == x3) && (x2 == x4)))
          (R (.bool false) hv3)
          (Iv [.int .i64 (IntKind.i64.wrap (i + (1 : Int)))] hv3 ∧ m [.int .i64 (IntKind.i64.wrap (i + (1 : Int)))] hv3 < m [.int .i64 i] hv3))
        (R (.bool true) hv3)))
theorem calls40 {h : Heap} {R : Value → Heap → Prop} (a : Int) (aA : Option Addr) (aL aC : Nat) (b : Int) (bA : Option Addr) (bL bC : Nat) (H : S40 a aA aL aC b bA bL bC h R) : CallsH Try.prog 40 #[.agg #[.int .i64 a, .slice aA aL aC], .agg #[.int .i64 b, .slice bA bL bC]] h R := by
  have e : S40 a aA aL aC b bA bL bC h R = FX (envX [2, 3] 38) { loops := [(0, ⟨[2, 3], [5], [2, 3], []⟩)], joins := [], blocks := [], draws := [(6, ⟨11, false⟩)] } Try.f40 (Try.f40.body.getD .skip) [.agg #[.int .i64 a, .slice aA aL aC], .agg #[.int .i64 b, .slice bA bL bC]] h R := by kernel_rfl
  exact calls_of_FX (envX_ok _ _) Try.func40 (by kernel_rfl) (by kernel_rfl) (by kernel_rfl) (e ▸ H)
/-- tracery/traceryref3.Same -/
def Ok40 (a : Int) (edgesV : List (Int × Int)) (b : Int) (edgesV2 : List (Int × Int)) (R : Bool → Prop) : Prop :=
  ∀ (h : Heap) (aA : Option Addr) (aL aC : Nat) (bA : Option Addr) (bL bC : Nat), Hp h [Ck.vw eP aA aL aC edgesV, Ck.vw eP bA bL bC edgesV2] → CallsH Try.prog 40 #[.agg #[.int .i64 a, .slice aA aL aC], .agg #[.int .i64 b, .slice bA bL bC]] h fun v h' => ∃ (rV : Bool), Sy h [] h' [] ∧ v = .bool rV ∧ R rV
theorem Ok40.mono {a edgesV b edgesV2} {R R' : Bool → Prop} (H : Ok40 a edgesV b edgesV2 R) (kz : ∀ rV, R rV → R' rV) : Ok40 a edgesV b edgesV2 R' :=
  fun h aA aL aC bA bL bC hp => (H h aA aL aC bA bL bC hp).mono fun _ _ ⟨rV, P, e, q⟩ => ⟨rV, P, e, kz _ q⟩
def T40 (a : Int) (edgesV : List (Int × Int)) (b : Int) (edgesV2 : List (Int × Int)) (R : Bool → Prop) : Prop :=
  cnd (a != b)
    (R false)
    (cnd (((edgesV.length : Nat) : Int) != ((edgesV2.length : Nat) : Int))
      (R false)
      (∃ (Iv : Int → Prop) (m : Int → Nat), Iv 0 ∧
      ∀ i : Int, Iv i →
      cnd (decide (i < ((edgesV.length : Nat) : Int)))
        (0 ≤ i ∧ i < ((edgesV.length : Nat) : Int) ∧ ∀ a_2 : (Int × Int), edgesV[(Int.toNat i)]? = some a_2 → 0 ≤ i ∧ i < ((edgesV2.length : Nat) : Int) ∧ ∀ b_4 : (Int × Int), edgesV2[(Int.toNat i)]? = some b_4 → cnd (!((a_2.1 == b_4.1) && (a_2.2 == b_4.2)))
          (R false)
          (Iv (IntKind.i64.wrap (i + (1 : Int))) ∧ m (IntKind.i64.wrap (i + (1 : Int))) < m i))
        (R true)))
theorem ok40 {a edgesV b edgesV2} {R : Bool → Prop} (T : T40 a edgesV b edgesV2 R) : Ok40 a edgesV b edgesV2 R := by
  intro h aA aL aC bA bL bC H
  have Y : Sy h [] h _ := Sy.startM H rfl
  obtain rfl := Y.lenV 0 rfl
  obtain rfl := Y.lenV 1 rfl
  apply calls40
  unfold S40
  unfold T40 at T
  intro hv
  have Y : Sy _ _ hv [_, _, _] := Y.junk _
  clear_value hv
  intro hv2
  have Y : Sy _ _ hv2 [_, _, _, _] := Y.junk _
  clear_value hv2
  refine cnd_imp T (fun T => ?_) (fun T => ?_)
  · exact ⟨_, Y.pick [] rfl, rfl, T⟩
  · refine cnd_imp T (fun T => ?_) (fun T => ?_)
    · exact ⟨_, Y.pick [] rfl, rfl, T⟩
    · obtain ⟨Iv, m, T0, T1⟩ := T
      obtain ⟨B, hB, YB⟩ := Y.cut [] [0, 1, 2, 3] rfl
      obtain ⟨JJ, hJJ⟩ : ∃ JJ : Nat → List Value → Heap → Prop, JJ = (fun k lz h' => ∃ (i : Int), lz = [.int .i64 i] ∧ Sy h [] h' ([] ++ B) ∧ Iv i ∧ m i = k) := ⟨_, rfl⟩
      refine ⟨fun lz h' => ∃ k, JJ k lz h', Lm JJ, ?_, ?_⟩
      · subst hJJ hB
        exact ⟨_, _, rfl, YB, T0, rfl⟩
      · clear YB T0 Y
        intro i hv3 hI
        obtain ⟨k, hI, hm⟩ := loopIn hI
        subst hJJ hB
        obtain ⟨i, e, Y, T, rfl⟩ := hI
        cases e
        replace T := T1 i T
        have Y : Sy _ _ _ [_, _, _, _] := Y
        refine cnd_imp T (fun T => ?_) (fun T => ?_)
        · have Y0 := Y
          have F : Fr [] hv3 hv3 := Fr.refl _ _
          obtain ⟨q, q_2, T⟩ := T
          obtain ⟨b_2, o_2, hb, hr, a_2, hx⟩ := Y0.atV 0 rfl q q_2
          refine ⟨b_2, o_2, hb, q, q_2, ?_⟩
          replace T := T a_2 hx
          refine ⟨_, Y0.cellV 0 rfl hb (t := 0) hx rfl, ?_⟩
          refine ⟨_, Y0.cellV 0 rfl hb (t := 1) hx rfl, ?_⟩
          obtain ⟨q_3, q_4, T⟩ := T
          obtain ⟨b_3, o_3, hb_2, hr_2, b_4, hx_2⟩ := Y0.atV 1 rfl q_3 q_4
          refine ⟨b_3, o_3, hb_2, q_3, q_4, ?_⟩
          replace T := T b_4 hx_2
          refine ⟨_, Y0.cellV 1 rfl hb_2 (t := 0) hx_2 rfl, ?_⟩
          refine ⟨_, Y0.cellV 1 rfl hb_2 (t := 1) hx_2 rfl, ?_⟩
          refine cnd_imp T (fun T => ?_) (fun T => ?_)
          · exact ⟨_, Y.pick [] rfl, rfl, T⟩
          · exact loopBack hm ⟨_, rfl, Y.pick [0, 1, 2, 3] rfl, T.1, rfl⟩ T.2
        · exact ⟨_, Y.pick [] rfl, rfl, T⟩
end Go.Proofs.Ytmcloipjlihhlaa.N
