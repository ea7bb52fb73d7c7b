/- Functions: what is left to be shown of each, over memory and without: printed by program, tied to the loaded functions by the kernel. Conditions: none. -/
import Derived.Test.YtmcloipjlihhlaaSEnv
import Derived.Test.YtmcloipjlihhlaaYMore
import Derived.Test.YtmcloipjlihhlaaTNet
namespace Go.Proofs.Ytmcloipjlihhlaa.N
open Go.Proofs.Ytmcloipjlihhlaa
open Go.X
set_option maxRecDepth 100000
set_option linter.unusedVariables false
set_option linter.unusedSimpArgs false
set_option maxHeartbeats 2000000

/-- (*tracery/maker.draft).to -/
def S117 (dP : Option Addr) (u : Int) (v : Int) (h : Heap) (R : Value → Heap → Prop) : Prop :=
  ∃ b o, dP = some ⟨b, o, none⟩ ∧ ∃ (xA : Option Addr) (xL xC : Nat), hcell h b (o + 1) = some (.slice xA xL xC) ∧ let hv : Heap := h.push (.cells #[.int .i64 u, .int .i64 v] 35)
  ∃ old, Own hv 35 2 xA xL xC old ∧ (∀ b ∈ ([h.size] : List Nat), b ∉ blkOf xA) ∧ (xL + 1) * 16 ≤ 140737488355328 ∧ (xL + 1) ≤ maxLen ∧
  ∀ sA sC hv2, Own hv2 35 2 sA (xL + 1) sC (old ++ [.int .i64 u, .int .i64 v]) → Fr (blkOf xA) hv hv2 → ((sA = xA ∧ sC = xC) ∨ ∃ g, sA = some ⟨g, 0, none⟩ ∧ hv.size ≤ g) → (xC < (xL + 1) → Fr [] hv hv2) →
  ∃ b2 o2, dP = some ⟨b2, o2, none⟩ ∧ b2 ≠ h.size ∧ (∃ u, hcell hv2 b2 (o2 + 1) = some u) ∧ hfree hv2 b2 (o2 + 1) = true ∧ let hv3 : Heap := hset hv2 b2 (o2 + 1) (.slice sA (xL + 1) sC)
  R (.tuple #[]) hv3
theorem calls117 {h : Heap} {R : Value → Heap → Prop} (dP : Option Addr) (u : Int) (v : Int) (H : S117 dP u v h R) : CallsH Try.prog 117 #[.pointer dP, .int .i64 u, .int .i64 v] h R := by
  have e : S117 dP u v h R = FX (envX [15] 20) { loops := [], joins := [], blocks := [], draws := [] } Try.f117 (Try.f117.body.getD .skip) [.pointer dP, .int .i64 u, .int .i64 v] h R := by kernel_rfl
  exact calls_of_FX (envX_ok _ _) Try.func117 (by kernel_rfl) (by kernel_rfl) (by kernel_rfl) (e ▸ H)
/-- (*tracery/maker.draft).to -/
def Ok117 (nV : Int) (edgesV : List (Int × Int)) (u : Int) (v : Int) (R : Int → List (Int × Int) → Prop) : Prop :=
  ∀ (h : Heap) (dB : Nat) (edgesVA : Option Addr) (edgesVL edgesVC : Nat), Hp h [Ck.ob dB 229 [.int .i64 nV, .slice edgesVA edgesVL edgesVC], Ck.sl eP 35 edgesVA edgesVL edgesVC edgesV] → CallsH Try.prog 117 #[.pointer (some ⟨dB, 0, none⟩), .int .i64 u, .int .i64 v] h fun v h' => ∃ (edgesVA2 : Option Addr) (edgesVL2 edgesVC2 : Nat) (edgesV1 : List (Int × Int)) (nV2 : Int), Sy h (owns [Ck.ob dB 229 [.int .i64 nV, .slice edgesVA edgesVL edgesVC], Ck.sl eP 35 edgesVA edgesVL edgesVC edgesV]) h' [Ck.ob dB 229 [.int .i64 nV2, .slice edgesVA2 edgesVL2 edgesVC2], Ck.sl eP 35 edgesVA2 edgesVL2 edgesVC2 edgesV1] ∧ v = .tuple #[] ∧ R nV2 edgesV1
theorem Ok117.mono {nV edgesV u v} {R R' : Int → List (Int × Int) → Prop} (H : Ok117 nV edgesV u v R) (kz : ∀ nV2 edgesV1, R nV2 edgesV1 → R' nV2 edgesV1) : Ok117 nV edgesV u v R' :=
  fun h dB edgesVA edgesVL edgesVC hp => (H h dB edgesVA edgesVL edgesVC hp).mono fun _ _ ⟨edgesVA2, edgesVL2, edgesVC2, edgesV1, nV2, P, e, q⟩ => ⟨edgesVA2, edgesVL2, edgesVC2, edgesV1, nV2, P, e, kz _ _ q⟩
def T117 (nV : Int) (edgesV : List (Int × Int)) (u : Int) (v : Int) (R : Int → List (Int × Int) → Prop) : Prop :=
  (edgesV.length + 1) < 1000000000000 ∧ R nV (edgesV ++ [(u, v)])
theorem ok117 {nV edgesV u v} {R : Int → List (Int × Int) → Prop} (T : T117 nV edgesV u v R) : Ok117 nV edgesV u v R := by
  intro h dB edgesVA edgesVL edgesVC H
  have Y : Sy h (owns [Ck.ob dB 229 [.int .i64 nV, .slice edgesVA edgesVL edgesVC], Ck.sl eP 35 edgesVA edgesVL edgesVC edgesV]) h _ := Sy.startM H rfl
  obtain rfl := Y.lenS 1 rfl
  apply calls117
  unfold S117
  unfold T117 at T
  refine ⟨dB, 0, rfl, ?_⟩
  refine ⟨_, _, _, Y.cellO 0 rfl 1 rfl, ?_⟩
  intro hv
  have Y : Sy _ _ hv [_, _, _] := Y.junk _
  clear_value hv
  obtain ⟨q, T⟩ := T
  refine ⟨_, Y.ownS 1 rfl, (allc (Y.nJ 1 2 rfl rfl rfl) alln), by first | exact appB q (by decide) | omega, by first | exact appM q | (simp [maxLen]; omega), ?_⟩
  intro sA sC hv2 ow fA gA gB
  have Y : Sy _ _ hv2 [_, _, _] := Y.appS 1 rfl ([(u, v)] : List (Int × Int)) ow fA gA rfl rfl
  refine ⟨dB, 0, rfl, ?_⟩
  refine ⟨(Y.neJ 0 2 rfl rfl rfl (by simp [Ck.ob])), ⟨_, Y.cellO 0 rfl 1 rfl⟩, Y.freeO 0 rfl _, ?_⟩
  intro hv3
  have Y : Sy _ _ hv3 [_, _, _] := (Y.stO 0 rfl 1 _)
  clear_value hv3
  exact ⟨_, _, _, _, _, Y.pick [0, 1] rfl, rfl, T⟩
/-- tracery/maker.Complete$1 -/
def S123 (dP : Option Addr) (fv : Option Addr) (h : Heap) (R : Value → Heap → Prop) : Prop :=
  ∃ b o, fv = some ⟨b, o, none⟩ ∧ ∃ x : Int, hcell h b o = some (.int .i64 x) ∧ ∃ (Iv : List Value → Heap → Prop) (m : List Value → Heap → Nat), Iv [.int .i64 0] h ∧ -- loop 0: ['6']
  ∀ x2 : Int, ∀ hv, Iv [.int .i64 x2] hv →
  cnd (decide (x2 < x))
    (∃ (Iv2 : List Value → Heap → Prop) (m2 : List Value → Heap → Nat), Iv2 [.int .i64 (IntKind.i64.wrap (x2 + (1 : Int)))] hv ∧ -- loop 2: ['k']
    ∀ k : Int, ∀ hv2, Iv2 [.int .i64 k] hv2 →
    ∃ b2 o2, fv = some ⟨b2, o2, none⟩ ∧ ∃ x3 : Int, hcell hv2 b2 o2 = some (.int .i64 x3) ∧ cnd (decide (k < x3))
      (callX Try.prog 117 #[.pointer dP, .int .i64 x2, .int .i64 k] hv2 [] fun v hv3 =>
      v = .tuple #[] ∧
      Iv2 [.int .i64 (IntKind.i64.wrap (k + (1 : Int)))] hv3 ∧ m2 [.int .i64 (IntKind.i64.wrap (k + (1 : Int)))] hv3 < m2 [.int .i64 k] hv2)
      (Iv [.int .i64 (IntKind.i64.wrap (x2 + (1 : Int)))] hv2 ∧ m [.int .i64 (IntKind.i64.wrap (x2 + (1 : Int)))] hv2 < m [.int .i64 x2] hv))
    (R (.tuple #[]) hv)
theorem calls123 {h : Heap} {R : Value → Heap → Prop} (dP : Option Addr) (fv : Option Addr) (H : S123 dP fv h R) : CallsH Try.prog 123 #[.pointer dP, .pointer fv] h R := by
  have e : S123 dP fv h R = FX (envX [] 21) { loops := [(0, ⟨[0, 1, 5], [6], [], []⟩), (2, ⟨[0, 1, 3, 5, 6], [4], [], []⟩)], joins := [], blocks := [], draws := [] } Try.f123 (Try.f123.body.getD .skip) [.pointer dP, .pointer fv] h R := by kernel_rfl
  exact calls_of_FX (envX_ok _ _) Try.func123 (by kernel_rfl) (by kernel_rfl) (by kernel_rfl) (e ▸ H)
/-- tracery/maker.Complete$1 -/
def Ok123 (nV : Int) (edgesV : List (Int × Int)) (fvV : Int) (R : Int → List (Int × Int) → Prop) : Prop :=
  ∀ (h : Heap) (dB : Nat) (edgesVA : Option Addr) (edgesVL edgesVC : Nat) (fvB fvO : Nat), Hp h [Ck.ob dB 229 [.int .i64 nV, .slice edgesVA edgesVL edgesVC], Ck.sl eP 35 edgesVA edgesVL edgesVC edgesV, Ck.vob fvB fvO [.int .i64 fvV]] → CallsH Try.prog 123 #[.pointer (some ⟨dB, 0, none⟩), .pointer (some ⟨fvB, fvO, none⟩)] h fun v h' => ∃ (edgesVA2 : Option Addr) (edgesVL2 edgesVC2 : Nat) (edgesV1 : List (Int × Int)) (nV2 : Int), Sy h (owns [Ck.ob dB 229 [.int .i64 nV, .slice edgesVA edgesVL edgesVC], Ck.sl eP 35 edgesVA edgesVL edgesVC edgesV]) h' [Ck.ob dB 229 [.int .i64 nV2, .slice edgesVA2 edgesVL2 edgesVC2], Ck.sl eP 35 edgesVA2 edgesVL2 edgesVC2 edgesV1] ∧ v = .tuple #[] ∧ R nV2 edgesV1
theorem Ok123.mono {nV edgesV fvV} {R R' : Int → List (Int × Int) → Prop} (H : Ok123 nV edgesV fvV R) (kz : ∀ nV2 edgesV1, R nV2 edgesV1 → R' nV2 edgesV1) : Ok123 nV edgesV fvV R' :=
  fun h dB edgesVA edgesVL edgesVC fvB fvO hp => (H h dB edgesVA edgesVL edgesVC fvB fvO hp).mono fun _ _ ⟨edgesVA2, edgesVL2, edgesVC2, edgesV1, nV2, P, e, q⟩ => ⟨edgesVA2, edgesVL2, edgesVC2, edgesV1, nV2, P, e, kz _ _ q⟩
def T123 (nV : Int) (edgesV : List (Int × Int)) (fvV : Int) (R : Int → List (Int × Int) → Prop) : Prop :=
  ∃ (Iv : Int → Int → List (Int × Int) → Prop) (m : Int → Int → List (Int × Int) → Nat), Iv 0 nV edgesV ∧
  ∀ x2 : Int, ∀ nV_2 : Int, ∀ edgesV_2 : List (Int × Int), Iv x2 nV_2 edgesV_2 →
  cnd (decide (x2 < fvV))
    (∃ (Iv2 : Int → Int → List (Int × Int) → Prop) (m2 : Int → Int → List (Int × Int) → Nat), Iv2 (IntKind.i64.wrap (x2 + (1 : Int))) nV_2 edgesV_2 ∧
    ∀ k : Int, ∀ nV_3 : Int, ∀ edgesV_3 : List (Int × Int), Iv2 k nV_3 edgesV_3 →
    cnd (decide (k < fvV))
      (Ok117 nV_3 edgesV_3 x2 k (fun nV2_2 edgesV1_2 =>
      Iv2 (IntKind.i64.wrap (k + (1 : Int))) nV2_2 edgesV1_2 ∧ m2 (IntKind.i64.wrap (k + (1 : Int))) nV2_2 edgesV1_2 < m2 k nV_3 edgesV_3))
      (Iv (IntKind.i64.wrap (x2 + (1 : Int))) nV_3 edgesV_3 ∧ m (IntKind.i64.wrap (x2 + (1 : Int))) nV_3 edgesV_3 < m x2 nV_2 edgesV_2))
    (R nV_2 edgesV_2)
theorem ok123 {nV edgesV fvV} {R : Int → List (Int × Int) → Prop} (T : T123 nV edgesV fvV R) : Ok123 nV edgesV fvV R := by
  intro h dB edgesVA edgesVL edgesVC fvB fvO H
  have Y : Sy h (owns [Ck.ob dB 229 [.int .i64 nV, .slice edgesVA edgesVL edgesVC], Ck.sl eP 35 edgesVA edgesVL edgesVC edgesV]) h _ := Sy.startM H rfl
  obtain rfl := Y.lenS 1 rfl
  apply calls123
  unfold S123
  unfold T123 at T
  refine ⟨fvB, fvO, rfl, ?_⟩
  refine ⟨_, Y.cellW 2 rfl 0 rfl, ?_⟩
  obtain ⟨Iv, m, T0, T1⟩ := T
  obtain ⟨B, hB, YB⟩ := Y.cut [0, 1] [2] rfl
  obtain ⟨F, hF⟩ := Y.fnO (k := 0) [0, 1] rfl
  obtain ⟨JJ, hJJ⟩ : ∃ JJ : Nat → List Value → Heap → Prop, JJ = (fun k_2 lz h' => ∃ (x2 : Int) (nV_2 : Int) (cA : Option Addr) (cL cC : Nat) (edgesV_2 : List (Int × Int)), lz = [.int .i64 x2] ∧ Sy h (owns [Ck.ob dB 229 [.int .i64 nV, .slice edgesVA edgesV.length edgesVC], Ck.sl eP 35 edgesVA edgesV.length edgesVC edgesV]) h' ([F [.int .i64 nV_2, .slice cA cL cC], Ck.sl eP 35 cA cL cC edgesV_2] ++ B) ∧ Iv x2 nV_2 edgesV_2 ∧ m x2 nV_2 edgesV_2 = k_2) := ⟨_, rfl⟩
  refine ⟨fun lz h' => ∃ k_2, JJ k_2 lz h', Lm JJ, ?_, ?_⟩
  · subst hJJ hB hF
    exact ⟨_, _, _, _, _, _, _, rfl, YB, T0, rfl⟩
  · clear YB T0 Y
    intro x2 hv hI
    obtain ⟨k_2, hI, hm⟩ := loopIn hI
    subst hJJ hB hF
    obtain ⟨x2, nV_2, cA, cL, cC, edgesV_2, e, Y, T, rfl⟩ := hI
    cases e
    obtain rfl := Y.lenS 1 rfl
    replace T := T1 x2 nV_2 edgesV_2 T
    have Y : Sy _ _ _ [_, _, _] := Y
    refine cnd_imp T (fun T => ?_) (fun T => ?_)
    · obtain ⟨Iv2, m2, T0, T1⟩ := T
      obtain ⟨B_2, hB_2, YB⟩ := Y.cut [0, 1] [2] rfl
      obtain ⟨F_2, hF_2⟩ := Y.fnO (k := 0) [0, 1] rfl
      obtain ⟨JJ_2, hJJ_2⟩ : ∃ JJ_2 : Nat → List Value → Heap → Prop, JJ_2 = (fun k_3 lz h' => ∃ (k : Int) (nV_3 : Int) (cA_2 : Option Addr) (cL_2 cC_2 : Nat) (edgesV_3 : List (Int × Int)), lz = [.int .i64 k] ∧ Sy h (owns [Ck.ob dB 229 [.int .i64 nV, .slice edgesVA edgesV.length edgesVC], Ck.sl eP 35 edgesVA edgesV.length edgesVC edgesV]) h' ([F_2 [.int .i64 nV_3, .slice cA_2 cL_2 cC_2], Ck.sl eP 35 cA_2 cL_2 cC_2 edgesV_3] ++ B_2) ∧ Iv2 k nV_3 edgesV_3 ∧ m2 k nV_3 edgesV_3 = k_3) := ⟨_, rfl⟩
      refine ⟨fun lz h' => ∃ k_3, JJ_2 k_3 lz h', Lm JJ_2, ?_, ?_⟩
      · subst hJJ_2 hB_2 hF_2
        exact ⟨_, _, _, _, _, _, _, rfl, YB, T0, rfl⟩
      · clear YB T0 Y
        intro k hv2 hI
        obtain ⟨k_3, hI, hm_2⟩ := loopIn hI
        subst hJJ_2 hB_2 hF_2
        obtain ⟨k, nV_3, cA_2, cL_2, cC_2, edgesV_3, e, Y, T, rfl⟩ := hI
        cases e
        obtain rfl := Y.lenS 1 rfl
        replace T := T1 k nV_3 edgesV_3 T
        have Y : Sy _ _ _ [_, _, _] := Y
        refine ⟨fvB, fvO, rfl, ?_⟩
        refine ⟨_, Y.cellW 2 rfl 0 rfl, ?_⟩
        refine cnd_imp T (fun T => ?_) (fun T => ?_)
        · refine callX_sy (T _ _ _ _ _ (Y.pick [0, 1] rfl).hp) (fun _ _ ⟨_, _, _, _, _, p, _⟩ => p.fr) alln ?_
          rintro v hv3 ⟨edgesVA2_2, edgesVL2_2, edgesVC2_2, edgesV1_2, nV2_2, PP, rfl, T⟩
          have Y : Sy _ _ hv3 [_, _, _] := Y.call2 [0, 1, 2] rfl (A := [_, _]) rfl rfl PP ⟨rfl, ⟨rfl, trivial⟩⟩
          clear PP
          obtain rfl := Y.lenS 1 rfl
          refine ⟨rfl, ?_⟩
          exact loopBack hm_2 ⟨_, _, _, _, _, _, rfl, Y.pick [0, 1, 2] rfl, T.1, rfl⟩ T.2
        · exact loopBack hm ⟨_, _, _, _, _, _, rfl, Y.pick [0, 1, 2] rfl, T.1, rfl⟩ T.2
    · exact ⟨_, _, _, _, _, Y.pick [0, 1] rfl, rfl, T⟩
/-- tracery/maker.Two$1 -/
def S125 (dP : Option Addr) (fv : Option Addr) (fv2 : Option Addr) (h : Heap) (R : Value → Heap → Prop) : Prop :=
  ∃ b o, fv = some ⟨b, o, none⟩ ∧ ∃ x : Int, hcell h b o = some (.int .i64 x) ∧ ∃ (Iv : List Value → Heap → Prop) (m : List Value → Heap → Nat), Iv [.int .i64 0] h ∧ -- loop 0: ['7']
  ∀ x2 : Int, ∀ hv, Iv [.int .i64 x2] hv →
  cnd (decide (x2 < x))
    (∃ b2 o2, fv2 = some ⟨b2, o2, none⟩ ∧ ∃ x3 : Int, hcell hv b2 o2 = some (.int .i64 x3) ∧ ∃ (Iv2 : List Value → Heap → Prop) (m2 : List Value → Heap → Nat), Iv2 [.int .i64 0] hv ∧ -- loop 2: ['11']
    ∀ x4 : Int, ∀ hv2, Iv2 [.int .i64 x4] hv2 →
    cnd (decide (x4 < x3))
      (∃ b3 o3, fv = some ⟨b3, o3, none⟩ ∧ ∃ x5 : Int, hcell hv2 b3 o3 = some (.int .i64 x5) ∧ callX Try.prog 117 #[.pointer dP, .int .i64 x2, .int .i64 (IntKind.i64.wrap (x5 + x4))] hv2 [] fun v hv3 =>
      v = .tuple #[] ∧
      Iv2 [.int .i64 (IntKind.i64.wrap (x4 + (1 : Int)))] hv3 ∧ m2 [.int .i64 (IntKind.i64.wrap (x4 + (1 : Int)))] hv3 < m2 [.int .i64 x4] hv2)
      (Iv [.int .i64 (IntKind.i64.wrap (x2 + (1 : Int)))] hv2 ∧ m [.int .i64 (IntKind.i64.wrap (x2 + (1 : Int)))] hv2 < m [.int .i64 x2] hv))
    (R (.tuple #[]) hv)
theorem calls125 {h : Heap} {R : Value → Heap → Prop} (dP : Option Addr) (fv : Option Addr) (fv2 : Option Addr) (H : S125 dP fv fv2 h R) : CallsH Try.prog 125 #[.pointer dP, .pointer fv, .pointer fv2] h R := by
  have e : S125 dP fv fv2 h R = FX (envX [] 22) { loops := [(0, ⟨[0, 1, 2, 6], [7], [], []⟩), (2, ⟨[0, 1, 2, 4, 6, 7, 10], [11], [], []⟩)], joins := [], blocks := [], draws := [] } Try.f125 (Try.f125.body.getD .skip) [.pointer dP, .pointer fv, .pointer fv2] h R := by kernel_rfl
  exact calls_of_FX (envX_ok _ _) Try.func125 (by kernel_rfl) (by kernel_rfl) (by kernel_rfl) (e ▸ H)
/-- tracery/maker.Two$1 -/
def Ok125 (nV : Int) (edgesV : List (Int × Int)) (fvV : Int) (fvV2 : Int) (R : Int → List (Int × Int) → Prop) : Prop :=
  ∀ (h : Heap) (dB : Nat) (edgesVA : Option Addr) (edgesVL edgesVC : Nat) (fvB fvO : Nat) (fvB2 fvO2 : Nat), Hp h [Ck.ob dB 229 [.int .i64 nV, .slice edgesVA edgesVL edgesVC], Ck.sl eP 35 edgesVA edgesVL edgesVC edgesV, Ck.vob fvB fvO [.int .i64 fvV], Ck.vob fvB2 fvO2 [.int .i64 fvV2]] → CallsH Try.prog 125 #[.pointer (some ⟨dB, 0, none⟩), .pointer (some ⟨fvB, fvO, none⟩), .pointer (some ⟨fvB2, fvO2, none⟩)] h fun v h' => ∃ (edgesVA2 : Option Addr) (edgesVL2 edgesVC2 : Nat) (edgesV1 : List (Int × Int)) (nV2 : Int), Sy h (owns [Ck.ob dB 229 [.int .i64 nV, .slice edgesVA edgesVL edgesVC], Ck.sl eP 35 edgesVA edgesVL edgesVC edgesV]) h' [Ck.ob dB 229 [.int .i64 nV2, .slice edgesVA2 edgesVL2 edgesVC2], Ck.sl eP 35 edgesVA2 edgesVL2 edgesVC2 edgesV1] ∧ v = .tuple #[] ∧ R nV2 edgesV1
theorem Ok125.mono {nV edgesV fvV fvV2} {R R' : Int → List (Int × Int) → Prop} (H : Ok125 nV edgesV fvV fvV2 R) (kz : ∀ nV2 edgesV1, R nV2 edgesV1 → R' nV2 edgesV1) : Ok125 nV edgesV fvV fvV2 R' :=
  fun h dB edgesVA edgesVL edgesVC fvB fvO fvB2 fvO2 hp => (H h dB edgesVA edgesVL edgesVC fvB fvO fvB2 fvO2 hp).mono fun _ _ ⟨edgesVA2, edgesVL2, edgesVC2, edgesV1, nV2, P, e, q⟩ => ⟨edgesVA2, edgesVL2, edgesVC2, edgesV1, nV2, P, e, kz _ _ q⟩
def T125 (nV : Int) (edgesV : List (Int × Int)) (fvV : Int) (fvV2 : Int) (R : Int → List (Int × Int) → Prop) : Prop :=
  ∃ (Iv : Int → Int → List (Int × Int) → Prop) (m : Int → Int → List (Int × Int) → Nat), Iv 0 nV edgesV ∧
  ∀ x2 : Int, ∀ nV_2 : Int, ∀ edgesV_2 : List (Int × Int), Iv x2 nV_2 edgesV_2 →
  cnd (decide (x2 < fvV))
    (∃ (Iv2 : Int → Int → List (Int × Int) → Prop) (m2 : Int → Int → List (Int × Int) → Nat), Iv2 0 nV_2 edgesV_2 ∧
    ∀ x4 : Int, ∀ nV_3 : Int, ∀ edgesV_3 : List (Int × Int), Iv2 x4 nV_3 edgesV_3 →
    cnd (decide (x4 < fvV2))
      (Ok117 nV_3 edgesV_3 x2 (IntKind.i64.wrap (fvV + x4)) (fun nV2_2 edgesV1_2 =>
      Iv2 (IntKind.i64.wrap (x4 + (1 : Int))) nV2_2 edgesV1_2 ∧ m2 (IntKind.i64.wrap (x4 + (1 : Int))) nV2_2 edgesV1_2 < m2 x4 nV_3 edgesV_3))
      (Iv (IntKind.i64.wrap (x2 + (1 : Int))) nV_3 edgesV_3 ∧ m (IntKind.i64.wrap (x2 + (1 : Int))) nV_3 edgesV_3 < m x2 nV_2 edgesV_2))
    (R nV_2 edgesV_2)
theorem ok125 {nV edgesV fvV fvV2} {R : Int → List (Int × Int) → Prop} (T : T125 nV edgesV fvV fvV2 R) : Ok125 nV edgesV fvV fvV2 R := by
  intro h dB edgesVA edgesVL edgesVC fvB fvO fvB2 fvO2 H
  have Y : Sy h (owns [Ck.ob dB 229 [.int .i64 nV, .slice edgesVA edgesVL edgesVC], Ck.sl eP 35 edgesVA edgesVL edgesVC edgesV]) h _ := Sy.startM H rfl
  obtain rfl := Y.lenS 1 rfl
  apply calls125
  unfold S125
  unfold T125 at T
  refine ⟨fvB, fvO, rfl, ?_⟩
  refine ⟨_, Y.cellW 2 rfl 0 rfl, ?_⟩
  obtain ⟨Iv, m, T0, T1⟩ := T
  obtain ⟨B, hB, YB⟩ := Y.cut [0, 1] [2, 3] rfl
  obtain ⟨F, hF⟩ := Y.fnO (k := 0) [0, 1] rfl
  obtain ⟨JJ, hJJ⟩ : ∃ JJ : Nat → List Value → Heap → Prop, JJ = (fun k lz h' => ∃ (x2 : Int) (nV_2 : Int) (cA : Option Addr) (cL cC : Nat) (edgesV_2 : List (Int × Int)), lz = [.int .i64 x2] ∧ Sy h (owns [Ck.ob dB 229 [.int .i64 nV, .slice edgesVA edgesV.length edgesVC], Ck.sl eP 35 edgesVA edgesV.length edgesVC edgesV]) h' ([F [.int .i64 nV_2, .slice cA cL cC], Ck.sl eP 35 cA cL cC edgesV_2] ++ B) ∧ Iv x2 nV_2 edgesV_2 ∧ m x2 nV_2 edgesV_2 = k) := ⟨_, rfl⟩
  refine ⟨fun lz h' => ∃ k, JJ k lz h', Lm JJ, ?_, ?_⟩
  · subst hJJ hB hF
    exact ⟨_, _, _, _, _, _, _, rfl, YB, T0, rfl⟩
  · clear YB T0 Y
    intro x2 hv hI
    obtain ⟨k, hI, hm⟩ := loopIn hI
    subst hJJ hB hF
    obtain ⟨x2, nV_2, cA, cL, cC, edgesV_2, e, Y, T, rfl⟩ := hI
    cases e
    obtain rfl := Y.lenS 1 rfl
    replace T := T1 x2 nV_2 edgesV_2 T
    have Y : Sy _ _ _ [_, _, _, _] := Y
    refine cnd_imp T (fun T => ?_) (fun T => ?_)
    · refine ⟨fvB2, fvO2, rfl, ?_⟩
      refine ⟨_, Y.cellW 3 rfl 0 rfl, ?_⟩
      obtain ⟨Iv2, m2, T0, T1⟩ := T
      obtain ⟨B_2, hB_2, YB⟩ := Y.cut [0, 1] [2, 3] rfl
      obtain ⟨F_2, hF_2⟩ := Y.fnO (k := 0) [0, 1] rfl
      obtain ⟨JJ_2, hJJ_2⟩ : ∃ JJ_2 : Nat → List Value → Heap → Prop, JJ_2 = (fun k_2 lz h' => ∃ (x4 : Int) (nV_3 : Int) (cA_2 : Option Addr) (cL_2 cC_2 : Nat) (edgesV_3 : List (Int × Int)), lz = [.int .i64 x4] ∧ Sy h (owns [Ck.ob dB 229 [.int .i64 nV, .slice edgesVA edgesV.length edgesVC], Ck.sl eP 35 edgesVA edgesV.length edgesVC edgesV]) h' ([F_2 [.int .i64 nV_3, .slice cA_2 cL_2 cC_2], Ck.sl eP 35 cA_2 cL_2 cC_2 edgesV_3] ++ B_2) ∧ Iv2 x4 nV_3 edgesV_3 ∧ m2 x4 nV_3 edgesV_3 = k_2) := ⟨_, rfl⟩
      refine ⟨fun lz h' => ∃ k_2, JJ_2 k_2 lz h', Lm JJ_2, ?_, ?_⟩
      · subst hJJ_2 hB_2 hF_2
        exact ⟨_, _, _, _, _, _, _, rfl, YB, T0, rfl⟩
      · clear YB T0 Y
        intro x4 hv2 hI
        obtain ⟨k_2, hI, hm_2⟩ := loopIn hI
        subst hJJ_2 hB_2 hF_2
        obtain ⟨x4, nV_3, cA_2, cL_2, cC_2, edgesV_3, e, Y, T, rfl⟩ := hI
        cases e
        obtain rfl := Y.lenS 1 rfl
        replace T := T1 x4 nV_3 edgesV_3 T
        have Y : Sy _ _ _ [_, _, _, _] := Y
        refine cnd_imp T (fun T => ?_) (fun T => ?_)
        · refine ⟨fvB, fvO, rfl, ?_⟩
          refine ⟨_, Y.cellW 2 rfl 0 rfl, ?_⟩
          refine callX_sy (T _ _ _ _ _ (Y.pick [0, 1] rfl).hp) (fun _ _ ⟨_, _, _, _, _, p, _⟩ => p.fr) alln ?_
          rintro v hv3 ⟨edgesVA2_2, edgesVL2_2, edgesVC2_2, edgesV1_2, nV2_2, PP, rfl, T⟩
          have Y : Sy _ _ hv3 [_, _, _, _] := Y.call2 [0, 1, 2, 3] rfl (A := [_, _]) rfl rfl PP ⟨rfl, ⟨rfl, trivial⟩⟩
          clear PP
          obtain rfl := Y.lenS 1 rfl
          refine ⟨rfl, ?_⟩
          exact loopBack hm_2 ⟨_, _, _, _, _, _, rfl, Y.pick [0, 1, 2, 3] rfl, T.1, rfl⟩ T.2
        · exact loopBack hm ⟨_, _, _, _, _, _, rfl, Y.pick [0, 1, 2, 3] rfl, T.1, rfl⟩ T.2
    · exact ⟨_, _, _, _, _, Y.pick [0, 1] rfl, rfl, T⟩
/-- tracery/traceryref5.made -/
def S129 (n : Int) (edgesA : Option Addr) (edgesL edgesC : Nat) (h : Heap) (R : Value → Heap → Prop) : Prop :=
  let hv : Heap := h.push (.cells #[.int .i64 0, .slice none 0 0] 26)
  let hv2 : Heap := hv.push (.cells #[.int .i64 0, .slice none 0 0] 26)
  let hv3 : Heap := hset (hset hv2 hv.size 0 (.int .i64 n)) hv.size (0 + 1) (.slice edgesA edgesL edgesC)
  callX Try.prog 43 #[.agg #[.int .i64 n, .slice edgesA edgesL edgesC]] hv3 [hv.size, h.size] fun v hv4 =>
  ∃ r : Bool, v = .bool r ∧
  cnd (!r)
    (let hv5 : Heap := hset (hset hv4 h.size 0 (.int .i64 0)) h.size (0 + 1) (.slice none 0 0)
    R (.tuple #[.agg #[.int .i64 0, .slice none 0 0], .int .i64 3]) hv5)
    (let hv6 : Heap := hset (hset hv4 h.size 0 (.int .i64 n)) h.size (0 + 1) (.slice edgesA edgesL edgesC)
    R (.tuple #[.agg #[.int .i64 n, .slice edgesA edgesL edgesC], .int .i64 0]) hv6)
theorem calls129 {h : Heap} {R : Value → Heap → Prop} (n : Int) (edgesA : Option Addr) (edgesL edgesC : Nat) (H : S129 n edgesA edgesL edgesC h R) : CallsH Try.prog 129 #[.int .i64 n, .slice edgesA edgesL edgesC] h R := by
  have e : S129 n edgesA edgesL edgesC h R = FX (envX [4, 6] 15) { loops := [], joins := [], blocks := [], draws := [] } Try.f129 (Try.f129.body.getD .skip) [.int .i64 n, .slice edgesA edgesL edgesC] h R := by kernel_rfl
  exact calls_of_FX (envX_ok _ _) Try.func129 (by kernel_rfl) (by kernel_rfl) (by kernel_rfl) (e ▸ H)
/-- tracery/traceryref5.made -/
def Ok129 (n : Int) (edgesV : List (Int × Int)) (R : Int → List (Int × Int) → Int → Prop) : Prop :=
  ∀ (h : Heap) (edgesA : Option Addr) (edgesL edgesC : Nat), Hp h [Ck.sl eP 35 edgesA edgesL edgesC edgesV] → CallsH Try.prog 129 #[.int .i64 n, .slice edgesA edgesL edgesC] h fun v h' => ∃ (nV : Int) (edgesVA : Option Addr) (edgesVL edgesVC : Nat) (edgesV2 : List (Int × Int)) (rbV : Int), Sy h (owns [Ck.sl eP 35 edgesA edgesL edgesC edgesV]) h' [Ck.sl eP 35 edgesVA edgesVL edgesVC edgesV2] ∧ v = .tuple #[.agg #[.int .i64 nV, .slice edgesVA edgesVL edgesVC], .int .i64 rbV] ∧ R nV edgesV2 rbV
theorem Ok129.mono {n edgesV} {R R' : Int → List (Int × Int) → Int → Prop} (H : Ok129 n edgesV R) (kz : ∀ nV edgesV2 rbV, R nV edgesV2 rbV → R' nV edgesV2 rbV) : Ok129 n edgesV R' :=
  fun h edgesA edgesL edgesC hp => (H h edgesA edgesL edgesC hp).mono fun _ _ ⟨nV, edgesVA, edgesVL, edgesVC, edgesV2, rbV, P, e, q⟩ => ⟨nV, edgesVA, edgesVL, edgesVC, edgesV2, rbV, P, e, kz _ _ _ q⟩
def T129 (n : Int) (edgesV : List (Int × Int)) (R : Int → List (Int × Int) → Int → Prop) : Prop :=
  Ok43 n edgesV (fun r =>
  cnd (!r)
    (R 0 ([] : List (Int × Int)) 3)
    (R n edgesV 0))
theorem ok129 {n edgesV} {R : Int → List (Int × Int) → Int → Prop} (T : T129 n edgesV R) : Ok129 n edgesV R := by
  intro h edgesA edgesL edgesC H
  have Y : Sy h (owns [Ck.sl eP 35 edgesA edgesL edgesC edgesV]) h _ := Sy.startM H rfl
  obtain rfl := Y.lenS 0 rfl
  apply calls129
  unfold S129
  unfold T129 at T
  intro hv
  have Y : Sy _ _ hv [_, _] := Y.junk _
  clear_value hv
  intro hv2
  have Y : Sy _ _ hv2 [_, _, _] := Y.junk _
  clear_value hv2
  intro hv3
  have Y : Sy _ _ hv3 [_, _, _] := ((Y.stJ 2 rfl _ _).stJ 2 rfl _ _)
  clear_value hv3
  refine callX_sy (T _ _ _ _ ((Y.turn 0 rfl To.slvw).pick [0] rfl).hp) (fun _ _ ⟨_, p, _⟩ => p.fr) (allc (fun h => by cases h) (allc (fun h => by cases h) alln)) ?_
  rintro v hv4 ⟨r, PP, rfl, T⟩
  have Y : Sy _ _ hv4 [_, _, _] := Y.gr PP.fr
  clear PP
  refine ⟨r, rfl, ?_⟩
  refine cnd_imp T (fun T => ?_) (fun T => ?_)
  · intro hv5
    have Y : Sy _ _ hv5 [_, _, _] := ((Y.stJ 1 rfl _ _).stJ 1 rfl _ _)
    clear_value hv5
    have Y : Sy _ _ _ [_, _, _, _] := Y.nilS eP 35
    exact ⟨_, _, _, _, _, _, Y.pick [3] rfl, rfl, T⟩
  · intro hv6
    have Y : Sy _ _ hv6 [_, _, _] := ((Y.stJ 1 rfl _ _).stJ 1 rfl _ _)
    clear_value hv6
    exact ⟨_, _, _, _, _, _, Y.pick [0] rfl, rfl, T⟩
/-- tracery/traceryref5.ring -/
def Ok130 (lV : List (Int × Int)) (atv : Int) (n : Int) (R : List (Int × Int) → Prop) : Prop :=
  ∀ (h : Heap) (lA : Option Addr) (lL lC : Nat), Hp h [Ck.sl eP 35 lA lL lC lV] → CallsH Try.prog 130 #[.slice lA lL lC, .int .i64 atv, .int .i64 n] h fun v h' => ∃ (rVA : Option Addr) (rVL rVC : Nat) (rV : List (Int × Int)), Sy h (owns [Ck.sl eP 35 lA lL lC lV]) h' [Ck.sl eP 35 rVA rVL rVC rV] ∧ v = .slice rVA rVL rVC ∧ R rV
theorem Ok130.mono {lV atv n} {R R' : List (Int × Int) → Prop} (H : Ok130 lV atv n R) (kz : ∀ rV, R rV → R' rV) : Ok130 lV atv n R' :=
  fun h lA lL lC hp => (H h lA lL lC hp).mono fun _ _ ⟨rVA, rVL, rVC, rV, P, e, q⟩ => ⟨rVA, rVL, rVC, rV, P, e, kz _ q⟩
/-- tracery/traceryref5.complete -/
def S131 (n : Int) (h : Heap) (R : Value → Heap → Prop) : Prop :=
  let hv : Heap := h.push (.cells #[.int .i64 0, .slice none 0 0] 26)
  cnd (decide (n > (79 : Int)))
    (let hv2 : Heap := hset (hset hv h.size 0 (.int .i64 0)) h.size (0 + 1) (.slice none 0 0)
    R (.tuple #[.agg #[.int .i64 0, .slice none 0 0], .int .i64 3]) hv2)
    (∃ (Iv : List Value → Heap → Prop) (m : List Value → Heap → Nat), Iv [.slice none 0 0, .int .i64 0] hv ∧ -- loop 0: ['l', 'i']
    ∀ (lA : Option Addr) (lL lC : Nat), ∀ i : Int, ∀ hv3, Iv [.slice lA lL lC, .int .i64 i] hv3 →
    cnd (decide (i < n))
      (∃ (Iv2 : List Value → Heap → Prop) (m2 : List Value → Heap → Nat), Iv2 [.slice lA lL lC, .int .i64 (IntKind.i64.wrap (i + (1 : Int)))] hv3 ∧ -- loop 2: ['l', 'k']
      ∀ (lA2 : Option Addr) (lL2 lC2 : Nat), ∀ k : Int, ∀ hv4, Iv2 [.slice lA2 lL2 lC2, .int .i64 k] hv4 →
      cnd (decide (k < n))
        (let hv5 : Heap := hv4.push (.cells #[.int .i64 i, .int .i64 k] 35)
        ∃ old, Own hv5 35 2 lA2 lL2 lC2 old ∧ (∀ b ∈ ([hv4.size, h.size] : List Nat), b ∉ blkOf lA2) ∧ (lL2 + 1) * 16 ≤ 140737488355328 ∧ (lL2 + 1) ≤ maxLen ∧
        ∀ sA sC hv6, Own hv6 35 2 sA (lL2 + 1) sC (old ++ [.int .i64 i, .int .i64 k]) → Fr (blkOf lA2) hv5 hv6 → ((sA = lA2 ∧ sC = lC2) ∨ ∃ g, sA = some ⟨g, 0, none⟩ ∧ hv5.size ≤ g) → (lC2 < (lL2 + 1) → Fr [] hv5 hv6) →
        Iv2 [.slice sA (lL2 + 1) sC, .int .i64 (IntKind.i64.wrap (k + (1 : Int)))] hv6 ∧ m2 [.slice sA (lL2 + 1) sC, .int .i64 (IntKind.i64.wrap (k + (1 : Int)))] hv6 < m2 [.slice lA2 lL2 lC2, .int .i64 k] hv4)
        (Iv [.slice lA2 lL2 lC2, .int .i64 (IntKind.i64.wrap (i + (1 : Int)))] hv4 ∧ m [.slice lA2 lL2 lC2, .int .i64 (IntKind.i64.wrap (i + (1 : Int)))] hv4 < m [.slice lA lL lC, .int .i64 i] hv3))
      (callX Try.prog 129 #[.int .i64 n, .slice lA lL lC] hv3 [h.size] fun v hv7 =>
      ∃ ra : Int, ∃ (raA : Option Addr) (raL raC : Nat), ∃ rb : Int, v = .tuple #[.agg #[.int .i64 ra, .slice raA raL raC], .int .i64 rb] ∧
      let hv8 : Heap := hset (hset hv7 h.size 0 (.int .i64 ra)) h.size (0 + 1) (.slice raA raL raC)
      R (.tuple #[.agg #[.int .i64 ra, .slice raA raL raC], .int .i64 rb]) hv8))
theorem calls131 {h : Heap} {R : Value → Heap → Prop} (n : Int) (H : S131 n h R) : CallsH Try.prog 131 #[.int .i64 n] h R := by
  have e : S131 n h R = FX (envX [2, 26] 33) { loops := [(0, ⟨[0, 2], [4, 5], [2], []⟩), (2, ⟨[0, 2, 5], [4, 6], [2], []⟩)], joins := [], blocks := [], draws := [] } Try.f131 (Try.f131.body.getD .skip) [.int .i64 n] h R := by kernel_rfl
  exact calls_of_FX (envX_ok _ _) Try.func131 (by kernel_rfl) (by kernel_rfl) (by kernel_rfl) (e ▸ H)
/-- tracery/traceryref5.complete -/
def Ok131 (n : Int) (R : Int → List (Int × Int) → Int → Prop) : Prop :=
  ∀ (h : Heap), Hp h [] → CallsH Try.prog 131 #[.int .i64 n] h fun v h' => ∃ (nV : Int) (edgesVA : Option Addr) (edgesVL edgesVC : Nat) (edgesV : List (Int × Int)) (rbV : Int), Sy h [] h' [Ck.sl eP 35 edgesVA edgesVL edgesVC edgesV] ∧ v = .tuple #[.agg #[.int .i64 nV, .slice edgesVA edgesVL edgesVC], .int .i64 rbV] ∧ R nV edgesV rbV
theorem Ok131.mono {n} {R R' : Int → List (Int × Int) → Int → Prop} (H : Ok131 n R) (kz : ∀ nV edgesV rbV, R nV edgesV rbV → R' nV edgesV rbV) : Ok131 n R' :=
  fun h  hp => (H h  hp).mono fun _ _ ⟨nV, edgesVA, edgesVL, edgesVC, edgesV, rbV, P, e, q⟩ => ⟨nV, edgesVA, edgesVL, edgesVC, edgesV, rbV, P, e, kz _ _ _ q⟩
def T131 (n : Int) (R : Int → List (Int × Int) → Int → Prop) : Prop :=
  cnd (decide (n > (79 : Int)))
    (R 0 ([] : List (Int × Int)) 3)
    (∃ (Iv : List (Int × Int) → Int → Prop) (m : List (Int × Int) → Int → Nat), Iv ([] : List (Int × Int)) 0 ∧
    ∀ l : List (Int × Int), ∀ i : Int, Iv l i →
    cnd (decide (i < n))
      (∃ (Iv2 : List (Int × Int) → Int → Prop) (m2 : List (Int × Int) → Int → Nat), Iv2 l (IntKind.i64.wrap (i + (1 : Int))) ∧
      ∀ l_2 : List (Int × Int), ∀ k : Int, Iv2 l_2 k →
      cnd (decide (k < n))
        ((l_2.length + 1) < 1000000000000 ∧ Iv2 (l_2 ++ [(i, k)]) (IntKind.i64.wrap (k + (1 : Int))) ∧ m2 (l_2 ++ [(i, k)]) (IntKind.i64.wrap (k + (1 : Int))) < m2 l_2 k)
        (Iv l_2 (IntKind.i64.wrap (i + (1 : Int))) ∧ m l_2 (IntKind.i64.wrap (i + (1 : Int))) < m l i))
      (Ok129 n l (fun ra ra_2 rb =>
      R ra ra_2 rb)))
theorem ok131 {n} {R : Int → List (Int × Int) → Int → Prop} (T : T131 n R) : Ok131 n R := by
  intro h  H
  have Y : Sy h [] h _ := Sy.startM H rfl
  apply calls131
  unfold S131
  unfold T131 at T
  intro hv
  have Y : Sy _ _ hv [_] := Y.junk _
  clear_value hv
  refine cnd_imp T (fun T => ?_) (fun T => ?_)
  · intro hv2
    have Y : Sy _ _ hv2 [_] := ((Y.stJ 0 rfl _ _).stJ 0 rfl _ _)
    clear_value hv2
    have Y : Sy _ _ _ [_, _] := Y.nilS eP 35
    exact ⟨_, _, _, _, _, _, Y.pick [1] rfl, rfl, T⟩
  · have Y : Sy _ _ _ [_, _] := Y.nilS eP 35
    obtain ⟨Iv, m, T0, T1⟩ := T
    obtain ⟨B, hB, YB⟩ := Y.cut [1] [0] rfl
    obtain ⟨JJ, hJJ⟩ : ∃ JJ : Nat → List Value → Heap → Prop, JJ = (fun k_2 lz h' => ∃ (lA : Option Addr) (lL lC : Nat) (l : List (Int × Int)) (i : Int), lz = [.slice lA lL lC, .int .i64 i] ∧ Sy h [] h' ([Ck.sl eP 35 lA lL lC l] ++ B) ∧ Iv l i ∧ m l i = k_2) := ⟨_, rfl⟩
    refine ⟨fun lz h' => ∃ k_2, JJ k_2 lz h', Lm JJ, ?_, ?_⟩
    · subst hJJ hB
      exact ⟨_, _, _, _, _, _, rfl, YB, T0, rfl⟩
    · clear YB T0 Y
      intro lA lL lC i hv3 hI
      obtain ⟨k_2, hI, hm⟩ := loopIn hI
      subst hJJ hB
      obtain ⟨lA, lL, lC, l, i, e, Y, T, rfl⟩ := hI
      cases e
      obtain rfl := Y.lenS 0 rfl
      replace T := T1 l i T
      have Y : Sy _ _ _ [_, _] := Y
      refine cnd_imp T (fun T => ?_) (fun T => ?_)
      · obtain ⟨Iv2, m2, T0, T1⟩ := T
        obtain ⟨B_2, hB_2, YB⟩ := Y.cut [0] [1] rfl
        obtain ⟨JJ_2, hJJ_2⟩ : ∃ JJ_2 : Nat → List Value → Heap → Prop, JJ_2 = (fun k_3 lz h' => ∃ (lA2 : Option Addr) (lL2 lC2 : Nat) (l_2 : List (Int × Int)) (k : Int), lz = [.slice lA2 lL2 lC2, .int .i64 k] ∧ Sy h [] h' ([Ck.sl eP 35 lA2 lL2 lC2 l_2] ++ B_2) ∧ Iv2 l_2 k ∧ m2 l_2 k = k_3) := ⟨_, rfl⟩
        refine ⟨fun lz h' => ∃ k_3, JJ_2 k_3 lz h', Lm JJ_2, ?_, ?_⟩
        · subst hJJ_2 hB_2
          exact ⟨_, _, _, _, _, _, rfl, YB, T0, rfl⟩
        · clear YB T0 Y
          intro lA2 lL2 lC2 k hv4 hI
          obtain ⟨k_3, hI, hm_2⟩ := loopIn hI
          subst hJJ_2 hB_2
          obtain ⟨lA2, lL2, lC2, l_2, k, e, Y, T, rfl⟩ := hI
          cases e
          obtain rfl := Y.lenS 0 rfl
          replace T := T1 l_2 k T
          have Y : Sy _ _ _ [_, _] := Y
          refine cnd_imp T (fun T => ?_) (fun T => ?_)
          · intro hv5
            have Y : Sy _ _ hv5 [_, _, _] := Y.junk _
            clear_value hv5
            obtain ⟨q, T⟩ := T
            refine ⟨_, Y.ownS 0 rfl, (allc (Y.nJ 0 2 rfl rfl rfl) (allc (Y.nJ 0 1 rfl rfl rfl) alln)), by first | exact appB q (by decide) | omega, by first | exact appM q | (simp [maxLen]; omega), ?_⟩
            intro sA sC hv6 ow fA gA gB
            have Y : Sy _ _ hv6 [_, _, _] := Y.appS 0 rfl ([(i, k)] : List (Int × Int)) ow fA gA rfl rfl
            exact loopBack hm_2 ⟨_, _, _, _, _, rfl, Y.pick [0, 1] rfl, T.1, rfl⟩ T.2
          · exact loopBack hm ⟨_, _, _, _, _, rfl, Y.pick [0, 1] rfl, T.1, rfl⟩ T.2
      · refine callX_sy (T _ _ _ _ (Y.pick [0] rfl).hp) (fun _ _ ⟨_, _, _, _, _, _, p, _⟩ => p.fr) (allc (Y.nO 1 [0] rfl rfl) alln) ?_
        rintro v hv7 ⟨ra, raA, raL, raC, ra_2, rb, PP, rfl, T⟩
        have Y : Sy _ _ hv7 [_, _] := Y.call2 [0, 1] rfl (A := [_]) rfl rfl PP ⟨rfl, trivial⟩
        clear PP
        obtain rfl := Y.lenS 0 rfl
        refine ⟨ra, _, _, _, rb, rfl, ?_⟩
        intro hv8
        have Y : Sy _ _ hv8 [_, _] := ((Y.stJ 1 rfl _ _).stJ 1 rfl _ _)
        clear_value hv8
        exact ⟨_, _, _, _, _, _, Y.pick [0] rfl, rfl, T⟩
/-- tracery/traceryref5.sides -/
def S132 (a : Int) (b : Int) (h : Heap) (R : Value → Heap → Prop) : Prop :=
  let hv : Heap := h.push (.cells #[.int .i64 0, .slice none 0 0] 26)
  cnd (decide ((IntKind.i64.wrap (a * b)) > (3072 : Int)))
    (let hv2 : Heap := hset (hset hv h.size 0 (.int .i64 0)) h.size (0 + 1) (.slice none 0 0)
    R (.tuple #[.agg #[.int .i64 0, .slice none 0 0], .int .i64 3]) hv2)
    (∃ (Iv : List Value → Heap → Prop) (m : List Value → Heap → Nat), Iv [.slice none 0 0, .int .i64 0] hv ∧ -- loop 0: ['l', 'i']
    ∀ (lA : Option Addr) (lL lC : Nat), ∀ i : Int, ∀ hv3, Iv [.slice lA lL lC, .int .i64 i] hv3 →
    cnd (decide (i < a))
      (∃ (Iv2 : List Value → Heap → Prop) (m2 : List Value → Heap → Nat), Iv2 [.slice lA lL lC, .int .i64 0] hv3 ∧ -- loop 2: ['l', 'k']
      ∀ (lA2 : Option Addr) (lL2 lC2 : Nat), ∀ k : Int, ∀ hv4, Iv2 [.slice lA2 lL2 lC2, .int .i64 k] hv4 →
      cnd (decide (k < b))
        (let hv5 : Heap := hv4.push (.cells #[.int .i64 i, .int .i64 (IntKind.i64.wrap (a + k))] 35)
        ∃ old, Own hv5 35 2 lA2 lL2 lC2 old ∧ (∀ b ∈ ([hv4.size, h.size] : List Nat), b ∉ blkOf lA2) ∧ (lL2 + 1) * 16 ≤ 140737488355328 ∧ (lL2 + 1) ≤ maxLen ∧
        ∀ sA sC hv6, Own hv6 35 2 sA (lL2 + 1) sC (old ++ [.int .i64 i, .int .i64 (IntKind.i64.wrap (a + k))]) → Fr (blkOf lA2) hv5 hv6 → ((sA = lA2 ∧ sC = lC2) ∨ ∃ g, sA = some ⟨g, 0, none⟩ ∧ hv5.size ≤ g) → (lC2 < (lL2 + 1) → Fr [] hv5 hv6) →
        Iv2 [.slice sA (lL2 + 1) sC, .int .i64 (IntKind.i64.wrap (k + (1 : Int)))] hv6 ∧ m2 [.slice sA (lL2 + 1) sC, .int .i64 (IntKind.i64.wrap (k + (1 : Int)))] hv6 < m2 [.slice lA2 lL2 lC2, .int .i64 k] hv4)
        (Iv [.slice lA2 lL2 lC2, .int .i64 (IntKind.i64.wrap (i + (1 : Int)))] hv4 ∧ m [.slice lA2 lL2 lC2, .int .i64 (IntKind.i64.wrap (i + (1 : Int)))] hv4 < m [.slice lA lL lC, .int .i64 i] hv3))
      (callX Try.prog 129 #[.int .i64 (IntKind.i64.wrap (a + b)), .slice lA lL lC] hv3 [h.size] fun v hv7 =>
      ∃ ra : Int, ∃ (raA : Option Addr) (raL raC : Nat), ∃ rb : Int, v = .tuple #[.agg #[.int .i64 ra, .slice raA raL raC], .int .i64 rb] ∧
      let hv8 : Heap := hset (hset hv7 h.size 0 (.int .i64 ra)) h.size (0 + 1) (.slice raA raL raC)
      R (.tuple #[.agg #[.int .i64 ra, .slice raA raL raC], .int .i64 rb]) hv8))
theorem calls132 {h : Heap} {R : Value → Heap → Prop} (a : Int) (b : Int) (H : S132 a b h R) : CallsH Try.prog 132 #[.int .i64 a, .int .i64 b] h R := by
  have e : S132 a b h R = FX (envX [4, 30] 39) { loops := [(0, ⟨[0, 1, 4], [6, 7], [4], []⟩), (2, ⟨[0, 1, 4, 7], [6, 8], [4], []⟩)], joins := [], blocks := [], draws := [] } Try.f132 (Try.f132.body.getD .skip) [.int .i64 a, .int .i64 b] h R := by kernel_rfl
  exact calls_of_FX (envX_ok _ _) Try.func132 (by kernel_rfl) (by kernel_rfl) (by kernel_rfl) (e ▸ H)
/-- tracery/traceryref5.sides -/
def Ok132 (a : Int) (b : Int) (R : Int → List (Int × Int) → Int → Prop) : Prop :=
  ∀ (h : Heap), Hp h [] → CallsH Try.prog 132 #[.int .i64 a, .int .i64 b] h fun v h' => ∃ (nV : Int) (edgesVA : Option Addr) (edgesVL edgesVC : Nat) (edgesV : List (Int × Int)) (rbV : Int), Sy h [] h' [Ck.sl eP 35 edgesVA edgesVL edgesVC edgesV] ∧ v = .tuple #[.agg #[.int .i64 nV, .slice edgesVA edgesVL edgesVC], .int .i64 rbV] ∧ R nV edgesV rbV
theorem Ok132.mono {a b} {R R' : Int → List (Int × Int) → Int → Prop} (H : Ok132 a b R) (kz : ∀ nV edgesV rbV, R nV edgesV rbV → R' nV edgesV rbV) : Ok132 a b R' :=
  fun h  hp => (H h  hp).mono fun _ _ ⟨nV, edgesVA, edgesVL, edgesVC, edgesV, rbV, P, e, q⟩ => ⟨nV, edgesVA, edgesVL, edgesVC, edgesV, rbV, P, e, kz _ _ _ q⟩
def T132 (a : Int) (b : Int) (R : Int → List (Int × Int) → Int → Prop) : Prop :=
  cnd (decide ((IntKind.i64.wrap (a * b)) > (3072 : Int)))
    (R 0 ([] : List (Int × Int)) 3)
    (∃ (Iv : List (Int × Int) → Int → Prop) (m : List (Int × Int) → Int → Nat), Iv ([] : List (Int × Int)) 0 ∧
    ∀ l : List (Int × Int), ∀ i : Int, Iv l i →
    cnd (decide (i < a))
      (∃ (Iv2 : List (Int × Int) → Int → Prop) (m2 : List (Int × Int) → Int → Nat), Iv2 l 0 ∧
      ∀ l_2 : List (Int × Int), ∀ k : Int, Iv2 l_2 k →
      cnd (decide (k < b))
        ((l_2.length + 1) < 1000000000000 ∧ Iv2 (l_2 ++ [(i, (IntKind.i64.wrap (a + k)))]) (IntKind.i64.wrap (k + (1 : Int))) ∧ m2 (l_2 ++ [(i, (IntKind.i64.wrap (a + k)))]) (IntKind.i64.wrap (k + (1 : Int))) < m2 l_2 k)
        (Iv l_2 (IntKind.i64.wrap (i + (1 : Int))) ∧ m l_2 (IntKind.i64.wrap (i + (1 : Int))) < m l i))
      (Ok129 (IntKind.i64.wrap (a + b)) l (fun ra ra_2 rb =>
      R ra ra_2 rb)))
theorem ok132 {a b} {R : Int → List (Int × Int) → Int → Prop} (T : T132 a b R) : Ok132 a b R := by
  intro h  H
  have Y : Sy h [] h _ := Sy.startM H rfl
  apply calls132
  unfold S132
  unfold T132 at T
  intro hv
  have Y : Sy _ _ hv [_] := Y.junk _
  clear_value hv
  refine cnd_imp T (fun T => ?_) (fun T => ?_)
  · intro hv2
    have Y : Sy _ _ hv2 [_] := ((Y.stJ 0 rfl _ _).stJ 0 rfl _ _)
    clear_value hv2
    have Y : Sy _ _ _ [_, _] := Y.nilS eP 35
    exact ⟨_, _, _, _, _, _, Y.pick [1] rfl, rfl, T⟩
  · have Y : Sy _ _ _ [_, _] := Y.nilS eP 35
    obtain ⟨Iv, m, T0, T1⟩ := T
    obtain ⟨B, hB, YB⟩ := Y.cut [1] [0] rfl
    obtain ⟨JJ, hJJ⟩ : ∃ JJ : Nat → List Value → Heap → Prop, JJ = (fun k_2 lz h' => ∃ (lA : Option Addr) (lL lC : Nat) (l : List (Int × Int)) (i : Int), lz = [.slice lA lL lC, .int .i64 i] ∧ Sy h [] h' ([Ck.sl eP 35 lA lL lC l] ++ B) ∧ Iv l i ∧ m l i = k_2) := ⟨_, rfl⟩
    refine ⟨fun lz h' => ∃ k_2, JJ k_2 lz h', Lm JJ, ?_, ?_⟩
    · subst hJJ hB
      exact ⟨_, _, _, _, _, _, rfl, YB, T0, rfl⟩
    · clear YB T0 Y
      intro lA lL lC i hv3 hI
      obtain ⟨k_2, hI, hm⟩ := loopIn hI
      subst hJJ hB
      obtain ⟨lA, lL, lC, l, i, e, Y, T, rfl⟩ := hI
      cases e
      obtain rfl := Y.lenS 0 rfl
      replace T := T1 l i T
      have Y : Sy _ _ _ [_, _] := Y
      refine cnd_imp T (fun T => ?_) (fun T => ?_)
      · obtain ⟨Iv2, m2, T0, T1⟩ := T
        obtain ⟨B_2, hB_2, YB⟩ := Y.cut [0] [1] rfl
        obtain ⟨JJ_2, hJJ_2⟩ : ∃ JJ_2 : Nat → List Value → Heap → Prop, JJ_2 = (fun k_3 lz h' => ∃ (lA2 : Option Addr) (lL2 lC2 : Nat) (l_2 : List (Int × Int)) (k : Int), lz = [.slice lA2 lL2 lC2, .int .i64 k] ∧ Sy h [] h' ([Ck.sl eP 35 lA2 lL2 lC2 l_2] ++ B_2) ∧ Iv2 l_2 k ∧ m2 l_2 k = k_3) := ⟨_, rfl⟩
        refine ⟨fun lz h' => ∃ k_3, JJ_2 k_3 lz h', Lm JJ_2, ?_, ?_⟩
        · subst hJJ_2 hB_2
          exact ⟨_, _, _, _, _, _, rfl, YB, T0, rfl⟩
        · clear YB T0 Y
          intro lA2 lL2 lC2 k hv4 hI
          obtain ⟨k_3, hI, hm_2⟩ := loopIn hI
          subst hJJ_2 hB_2
          obtain ⟨lA2, lL2, lC2, l_2, k, e, Y, T, rfl⟩ := hI
          cases e
          obtain rfl := Y.lenS 0 rfl
          replace T := T1 l_2 k T
          have Y : Sy _ _ _ [_, _] := Y
          refine cnd_imp T (fun T => ?_) (fun T => ?_)
          · intro hv5
            have Y : Sy _ _ hv5 [_, _, _] := Y.junk _
            clear_value hv5
            obtain ⟨q, T⟩ := T
            refine ⟨_, Y.ownS 0 rfl, (allc (Y.nJ 0 2 rfl rfl rfl) (allc (Y.nJ 0 1 rfl rfl rfl) alln)), by first | exact appB q (by decide) | omega, by first | exact appM q | (simp [maxLen]; omega), ?_⟩
            intro sA sC hv6 ow fA gA gB
            have Y : Sy _ _ hv6 [_, _, _] := Y.appS 0 rfl ([(i, (IntKind.i64.wrap (a + k)))] : List (Int × Int)) ow fA gA rfl rfl
            exact loopBack hm_2 ⟨_, _, _, _, _, rfl, Y.pick [0, 1] rfl, T.1, rfl⟩ T.2
          · exact loopBack hm ⟨_, _, _, _, _, rfl, Y.pick [0, 1] rfl, T.1, rfl⟩ T.2
      · refine callX_sy (T _ _ _ _ (Y.pick [0] rfl).hp) (fun _ _ ⟨_, _, _, _, _, _, p, _⟩ => p.fr) (allc (Y.nO 1 [0] rfl rfl) alln) ?_
        rintro v hv7 ⟨ra, raA, raL, raC, ra_2, rb, PP, rfl, T⟩
        have Y : Sy _ _ hv7 [_, _] := Y.call2 [0, 1] rfl (A := [_]) rfl rfl PP ⟨rfl, trivial⟩
        clear PP
        obtain rfl := Y.lenS 0 rfl
        refine ⟨ra, _, _, _, rb, rfl, ?_⟩
        intro hv8
        have Y : Sy _ _ hv8 [_, _] := ((Y.stJ 1 rfl _ _).stJ 1 rfl _ _)
        clear_value hv8
        exact ⟨_, _, _, _, _, _, Y.pick [0] rfl, rfl, T⟩
/-- tracery/traceryref5.grid -/
def Ok133 (w : Int) (hv : Int) (R : Int → List (Int × Int) → Int → Prop) : Prop :=
  ∀ (h : Heap), Hp h [] → CallsH Try.prog 133 #[.int .i64 w, .int .i64 hv] h fun v h' => ∃ (nV : Int) (edgesVA : Option Addr) (edgesVL edgesVC : Nat) (edgesV : List (Int × Int)) (rbV : Int), Sy h [] h' [Ck.sl eP 35 edgesVA edgesVL edgesVC edgesV] ∧ v = .tuple #[.agg #[.int .i64 nV, .slice edgesVA edgesVL edgesVC], .int .i64 rbV] ∧ R nV edgesV rbV
theorem Ok133.mono {w hv} {R R' : Int → List (Int × Int) → Int → Prop} (H : Ok133 w hv R) (kz : ∀ nV edgesV rbV, R nV edgesV rbV → R' nV edgesV rbV) : Ok133 w hv R' :=
  fun h  hp => (H h  hp).mono fun _ _ ⟨nV, edgesVA, edgesVL, edgesVC, edgesV, rbV, P, e, q⟩ => ⟨nV, edgesVA, edgesVL, edgesVC, edgesV, rbV, P, e, kz _ _ _ q⟩
/-- tracery/traceryref5.random -/
def Ok134 (n : Int) (m : Int) (seed : Int) (R : Int → List (Int × Int) → Int → Prop) : Prop :=
  ∀ (h : Heap), Hp h [] → CallsH Try.prog 134 #[.int .i64 n, .int .i64 m, .int .u64 seed] h fun v h' => ∃ (nV : Int) (edgesVA : Option Addr) (edgesVL edgesVC : Nat) (edgesV : List (Int × Int)) (rbV : Int), Sy h [] h' [Ck.sl eP 35 edgesVA edgesVL edgesVC edgesV] ∧ v = .tuple #[.agg #[.int .i64 nV, .slice edgesVA edgesVL edgesVC], .int .i64 rbV] ∧ R nV edgesV rbV
theorem Ok134.mono {n m seed} {R R' : Int → List (Int × Int) → Int → Prop} (H : Ok134 n m seed R) (kz : ∀ nV edgesV rbV, R nV edgesV rbV → R' nV edgesV rbV) : Ok134 n m seed R' :=
  fun h  hp => (H h  hp).mono fun _ _ ⟨nV, edgesVA, edgesVL, edgesVC, edgesV, rbV, P, e, q⟩ => ⟨nV, edgesVA, edgesVL, edgesVC, edgesV, rbV, P, e, kz _ _ _ q⟩
/-- tracery/traceryref5.stack -/
def Ok135 (n : Int) (seed : Int) (R : Int → List (Int × Int) → Int → Prop) : Prop :=
  ∀ (h : Heap), Hp h [] → CallsH Try.prog 135 #[.int .i64 n, .int .u64 seed] h fun v h' => ∃ (nV : Int) (edgesVA : Option Addr) (edgesVL edgesVC : Nat) (edgesV : List (Int × Int)) (rbV : Int), Sy h [] h' [Ck.sl eP 35 edgesVA edgesVL edgesVC edgesV] ∧ v = .tuple #[.agg #[.int .i64 nV, .slice edgesVA edgesVL edgesVC], .int .i64 rbV] ∧ R nV edgesV rbV
theorem Ok135.mono {n seed} {R R' : Int → List (Int × Int) → Int → Prop} (H : Ok135 n seed R) (kz : ∀ nV edgesV rbV, R nV edgesV rbV → R' nV edgesV rbV) : Ok135 n seed R' :=
  fun h  hp => (H h  hp).mono fun _ _ ⟨nV, edgesVA, edgesVL, edgesVC, edgesV, rbV, P, e, q⟩ => ⟨nV, edgesVA, edgesVL, edgesVC, edgesV, rbV, P, e, kz _ _ _ q⟩
end Go.Proofs.Ytmcloipjlihhlaa.N
