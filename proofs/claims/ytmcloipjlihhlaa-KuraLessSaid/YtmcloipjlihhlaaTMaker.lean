/- Functions: what is left to be shown of each, over memory and without: printed by program, tied to the loaded functions by the kernel. Conditions: none. -/
import Derived.Test.YtmcloipjlihhlaaSEnv
import Derived.Test.YtmcloipjlihhlaaYMore
import Derived.Test.YtmcloipjlihhlaaTNet
namespace Go.Proofs.Ytmcloipjlihhlaa.N
open Go.Proofs.Ytmcloipjlihhlaa
open Go.X
set_option maxRecDepth 100000
set_option linter.unusedVariables false
set_option linter.unusedSimpArgs false
set_option maxHeartbeats 2000000

/-- (*tracery/maker.draft).to -/
def S117 (dP : Option Addr) (u : Int) (v : Int) (h : Heap) (R : Value → Heap → Prop) : Prop :=
  ∃ b o, dP = some ⟨b, o, none⟩ ∧ ∃ (xA : Option Addr) (xL xC : Nat), hcell h b (o + 1) = some (.slice xA xL xC) ∧ let hv : Heap := h.push (.cells #[.int .i64 u, .int .i64 v] 35)
  ∃ old, Own hv 35 2 xA xL xC old ∧ (∀ b ∈ ([h.size] : List Nat), b ∉ blkOf xA) ∧ (xL + 1) * 16 ≤ 140737488355328 ∧ (xL + 1) ≤ maxLen ∧
  ∀ sA sC hv2, Own hv2 35 2 sA (xL + 1) sC (old ++ [.int .i64 u, .int .i64 v]) → Fr (blkOf xA) hv hv2 → ((sA = xA ∧ sC = xC) ∨ ∃ g, sA = some ⟨g, 0, none⟩ ∧ hv.size ≤ g) → (xC < (xL + 1) → Fr [] hv hv2) →
  ∃ b2 o2, dP = some ⟨b2, o2, none⟩ ∧ b2 ≠ h.size ∧ (∃ u, hcell hv2 b2 (o2 + 1) = some u) ∧ hfree hv2 b2 (o2 + 1) = true ∧ let hv3 : Heap := hset hv2 b2 (o2 + 1) (.slice sA (xL + 1) sC)
  R (.tuple #[]) hv3

theorem calls117 {h : Heap} {R : Value → Heap → Prop} (dP : Option Addr) (u : Int) (v : Int) (H : S117 dP u v h R) : CallsH Try.prog 117 #[.pointer dP, .int .i64 u, .int .i64 v] h R := by
  have e : S117 dP u v h R = FX (envX [15] 20) { loops := [], joins := [], blocks := [], draws := [] } Try.f117 (Try.f117.body.getD .skip) [.pointer dP, .int .i64 u, .int .i64 v] h R := by kernel_rfl
  exact calls_of_FX (envX_ok _ _) Try.func117 (by kernel_rfl) (by kernel_rfl) (by kernel_rfl) (e ▸ H)

/-- (*tracery/maker.draft).to -/
def Ok117 (nV : Int) (edgesV : List (Int × Int)) (u : Int) (v : Int) (R : Int → List (Int × Int) → Prop) : Prop :=
  ∀ (h : Heap) (dB : Nat) (edgesVA : Option Addr) (edgesVL edgesVC : Nat), Hp h [Ck.ob dB 229 [.int .i64 nV, .slice edgesVA edgesVL edgesVC], Ck.sl eP 35 edgesVA edgesVL edgesVC edgesV] → CallsH Try.prog 117 #[.pointer (some ⟨dB, 0, none⟩), .int .i64 u, .int .i64 v] h fun v h' => ∃ (edgesVA2 : Option Addr) (edgesVL2 edgesVC2 : Nat) (edgesV1 : List (Int × Int)) (nV2 : Int), Sy h (owns [Ck.ob dB 229 [.int .i64 nV, .slice edgesVA edgesVL edgesVC], Ck.sl eP 35 edgesVA edgesVL edgesVC edgesV]) h' [Ck.ob dB 229 [.int .i64 nV2, .slice edgesVA2 edgesVL2 edgesVC2], Ck.sl eP 35 edgesVA2 edgesVL2 edgesVC2 edgesV1] ∧ v = .tuple #[] ∧ R nV2 edgesV1
theorem Ok117.mono {nV edgesV u v} {R R' : Int → List (Int × Int) → Prop} (H : Ok117 nV edgesV u v R) (kz : ∀ nV2 edgesV1, R nV2 edgesV1 → R' nV2 edgesV1) : Ok117 nV edgesV u v R' :=
  fun h dB edgesVA edgesVL edgesVC hp => (H h dB edgesVA edgesVL edgesVC hp).mono fun _ _ ⟨edgesVA2, edgesVL2, edgesVC2, edgesV1, nV2, P, e, q⟩ => ⟨edgesVA2, edgesVL2, edgesVC2, edgesV1, nV2, P, e, kz _ _ q⟩

def T117 (nV : Int) (edgesV : List (Int × Int)) (u : Int) (v : Int) (R : Int → List (Int × Int) → Prop) : Prop :=
  (edgesV.length + 1) < 1000000000000 ∧ R nV (edgesV ++ [(u, v)])

theorem ok117 {nV edgesV u v} {R : Int → List (Int × Int) → Prop} (T : T117 nV edgesV u v R) : Ok117 nV edgesV u v R := by
  intro h dB edgesVA edgesVL edgesVC H
  have Y : Sy h (owns [Ck.ob dB 229 [.int .i64 nV, .slice edgesVA edgesVL edgesVC], Ck.sl eP 35 edgesVA edgesVL edgesVC edgesV]) h _ := Sy.startM H rfl
  obtain rfl := Y.lenS 1 rfl
  apply calls117
  unfold S117
  unfold T117 at T
  refine ⟨dB, 0, rfl, ?_⟩
  refine ⟨_, _, _, Y.cellO 0 rfl 1 rfl, ?_⟩
  intro hv
  have Y : Sy _ _ hv [_, _, _] := Y.junk _
  clear_value hv
  obtain ⟨q, T⟩ := T
  refine ⟨_, Y.ownS 1 rfl, (allc (Y.nJ 1 2 rfl rfl rfl) alln), by first | exact appB q (by decide) | omega, by first | exact appM q | (simp [maxLen]; omega), ?_⟩
  intro sA sC hv2 ow fA gA gB
  have Y : Sy _ _ hv2 [_, _, _] := Y.appS 1 rfl ([(u, v)] : List (Int × Int)) ow fA gA rfl rfl
  refine ⟨dB, 0, rfl, ?_⟩
  refine ⟨(Y.neJ 0 2 rfl rfl rfl (by simp [Ck.ob])), ⟨_, Y.cellO 0 rfl 1 rfl⟩, Y.freeO 0 rfl _, ?_⟩
  intro hv3
  have Y : Sy _ _ hv3 [_, _, _] := (Y.stO 0 rfl 1 _)
  clear_value hv3
  exact ⟨_, _, _, _, _, Y.pick [0, 1] rfl, rfl, T⟩

/-- (*tracery/maker.draft).cycle -/
def S115 (dP : Option Addr) (fromv : Int) (n : Int) (h : Heap) (R : Value → Heap → Prop) : Prop :=
  ∃ (Iv : List Value → Heap → Prop) (m : List Value → Heap → Nat), Iv [.int .i64 0] h ∧ -- loop 0: ['9']
  ∀ x : Int, ∀ hv, Iv [.int .i64 x] hv →
  cnd (decide (x < (IntKind.i64.wrap (n - (1 : Int)))))
    (callX Try.prog 117 #[.pointer dP, .int .i64 (IntKind.i64.wrap (fromv + x)), .int .i64 (IntKind.i64.wrap ((IntKind.i64.wrap (fromv + x)) + (1 : Int)))] hv [] fun v hv2 =>
    v = .tuple #[] ∧
    Iv [.int .i64 (IntKind.i64.wrap (x + (1 : Int)))] hv2 ∧ m [.int .i64 (IntKind.i64.wrap (x + (1 : Int)))] hv2 < m [.int .i64 x] hv)
    (callX Try.prog 117 #[.pointer dP, .int .i64 (IntKind.i64.wrap ((IntKind.i64.wrap (fromv + n)) - (1 : Int))), .int .i64 fromv] hv [] fun v2 hv3 =>
    v2 = .tuple #[] ∧
    R (.tuple #[]) hv3)

theorem calls115 {h : Heap} {R : Value → Heap → Prop} (dP : Option Addr) (fromv : Int) (n : Int) (H : S115 dP fromv n h R) : CallsH Try.prog 115 #[.pointer dP, .int .i64 fromv, .int .i64 n] h R := by
  have e : S115 dP fromv n h R = FX (envX [] 29) { loops := [(0, ⟨[0, 1, 2, 8], [9], [], []⟩)], joins := [], blocks := [], draws := [] } Try.f115 (Try.f115.body.getD .skip) [.pointer dP, .int .i64 fromv, .int .i64 n] h R := by kernel_rfl
  exact calls_of_FX (envX_ok _ _) Try.func115 (by kernel_rfl) (by kernel_rfl) (by kernel_rfl) (e ▸ H)

/-- (*tracery/maker.draft).cycle -/
def Ok115 (nV : Int) (edgesV : List (Int × Int)) (fromv : Int) (n : Int) (R : Int → List (Int × Int) → Prop) : Prop :=
  ∀ (h : Heap) (dB : Nat) (edgesVA : Option Addr) (edgesVL edgesVC : Nat), Hp h [Ck.ob dB 229 [.int .i64 nV, .slice edgesVA edgesVL edgesVC], Ck.sl eP 35 edgesVA edgesVL edgesVC edgesV] → CallsH Try.prog 115 #[.pointer (some ⟨dB, 0, none⟩), .int .i64 fromv, .int .i64 n] h fun v h' => ∃ (edgesVA2 : Option Addr) (edgesVL2 edgesVC2 : Nat) (edgesV1 : List (Int × Int)) (nV2 : Int), Sy h (owns [Ck.ob dB 229 [.int .i64 nV, .slice edgesVA edgesVL edgesVC], Ck.sl eP 35 edgesVA edgesVL edgesVC edgesV]) h' [Ck.ob dB 229 [.int .i64 nV2, .slice edgesVA2 edgesVL2 edgesVC2], Ck.sl eP 35 edgesVA2 edgesVL2 edgesVC2 edgesV1] ∧ v = .tuple #[] ∧ R nV2 edgesV1
theorem Ok115.mono {nV edgesV fromv n} {R R' : Int → List (Int × Int) → Prop} (H : Ok115 nV edgesV fromv n R) (kz : ∀ nV2 edgesV1, R nV2 edgesV1 → R' nV2 edgesV1) : Ok115 nV edgesV fromv n R' :=
  fun h dB edgesVA edgesVL edgesVC hp => (H h dB edgesVA edgesVL edgesVC hp).mono fun _ _ ⟨edgesVA2, edgesVL2, edgesVC2, edgesV1, nV2, P, e, q⟩ => ⟨edgesVA2, edgesVL2, edgesVC2, edgesV1, nV2, P, e, kz _ _ q⟩

def T115 (nV : Int) (edgesV : List (Int × Int)) (fromv : Int) (n : Int) (R : Int → List (Int × Int) → Prop) : Prop :=
  ∃ (Iv : Int → Int → List (Int × Int) → Prop) (m : Int → Int → List (Int × Int) → Nat), Iv 0 nV edgesV ∧
  ∀ x : Int, ∀ nV_2 : Int, ∀ edgesV_2 : List (Int × Int), Iv x nV_2 edgesV_2 →
  cnd (decide (x < (IntKind.i64.wrap (n - (1 : Int)))))
    (Ok117 nV_2 edgesV_2 (IntKind.i64.wrap (fromv + x)) (IntKind.i64.wrap ((IntKind.i64.wrap (fromv + x)) + (1 : Int))) (fun nV2_2 edgesV1_2 =>
    Iv (IntKind.i64.wrap (x + (1 : Int))) nV2_2 edgesV1_2 ∧ m (IntKind.i64.wrap (x + (1 : Int))) nV2_2 edgesV1_2 < m x nV_2 edgesV_2))
    (Ok117 nV_2 edgesV_2 (IntKind.i64.wrap ((IntKind.i64.wrap (fromv + n)) - (1 : Int))) fromv (fun nV2_3 edgesV1_3 =>
    R nV2_3 edgesV1_3))

theorem ok115 {nV edgesV fromv n} {R : Int → List (Int × Int) → Prop} (T : T115 nV edgesV fromv n R) : Ok115 nV edgesV fromv n R := by
  intro h dB edgesVA edgesVL edgesVC H
  have Y : Sy h (owns [Ck.ob dB 229 [.int .i64 nV, .slice edgesVA edgesVL edgesVC], Ck.sl eP 35 edgesVA edgesVL edgesVC edgesV]) h _ := Sy.startM H rfl
  obtain rfl := Y.lenS 1 rfl
  apply calls115
  unfold S115
  unfold T115 at T
  obtain ⟨Iv, m, T0, T1⟩ := T
  obtain ⟨B, hB, YB⟩ := Y.cut [0, 1] [] rfl
  obtain ⟨F, hF⟩ := Y.fnO (k := 0) [0, 1] rfl
  obtain ⟨JJ, hJJ⟩ : ∃ JJ : Nat → List Value → Heap → Prop, JJ = (fun k lz h' => ∃ (x : Int) (nV_2 : Int) (cA : Option Addr) (cL cC : Nat) (edgesV_2 : List (Int × Int)), lz = [.int .i64 x] ∧ Sy h (owns [Ck.ob dB 229 [.int .i64 nV, .slice edgesVA edgesV.length edgesVC], Ck.sl eP 35 edgesVA edgesV.length edgesVC edgesV]) h' ([F [.int .i64 nV_2, .slice cA cL cC], Ck.sl eP 35 cA cL cC edgesV_2] ++ B) ∧ Iv x nV_2 edgesV_2 ∧ m x nV_2 edgesV_2 = k) := ⟨_, rfl⟩
  refine ⟨fun lz h' => ∃ k, JJ k lz h', Lm JJ, ?_, ?_⟩
  · subst hJJ hB hF
    exact ⟨_, _, _, _, _, _, _, rfl, YB, T0, rfl⟩
  · clear YB T0 Y
    intro x hv hI
    obtain ⟨k, hI, hm⟩ := loopIn hI
    subst hJJ hB hF
    obtain ⟨x, nV_2, cA, cL, cC, edgesV_2, e, Y, T, rfl⟩ := hI
    cases e
    obtain rfl := Y.lenS 1 rfl
    replace T := T1 x nV_2 edgesV_2 T
    have Y : Sy _ _ _ [_, _] := Y
    refine cnd_imp T (fun T => ?_) (fun T => ?_)
    · refine callX_sy (T _ _ _ _ _ (Y.pick [0, 1] rfl).hp) (fun _ _ ⟨_, _, _, _, _, p, _⟩ => p.fr) alln ?_
      rintro v hv2 ⟨edgesVA2_2, edgesVL2_2, edgesVC2_2, edgesV1_2, nV2_2, PP, rfl, T⟩
      have Y : Sy _ _ hv2 [_, _] := Y.call2 [0, 1] rfl (A := [_, _]) rfl rfl PP ⟨rfl, ⟨rfl, trivial⟩⟩
      clear PP
      obtain rfl := Y.lenS 1 rfl
      refine ⟨rfl, ?_⟩
      exact loopBack hm ⟨_, _, _, _, _, _, rfl, Y.pick [0, 1] rfl, T.1, rfl⟩ T.2
    · refine callX_sy (T _ _ _ _ _ (Y.pick [0, 1] rfl).hp) (fun _ _ ⟨_, _, _, _, _, p, _⟩ => p.fr) alln ?_
      rintro v2 hv3 ⟨edgesVA2_3, edgesVL2_3, edgesVC2_3, edgesV1_3, nV2_3, PP, rfl, T⟩
      have Y : Sy _ _ hv3 [_, _] := Y.call2 [0, 1] rfl (A := [_, _]) rfl rfl PP ⟨rfl, ⟨rfl, trivial⟩⟩
      clear PP
      obtain rfl := Y.lenS 1 rfl
      refine ⟨rfl, ?_⟩
      exact ⟨_, _, _, _, _, Y.pick [0, 1] rfl, rfl, T⟩

/-- (*tracery/maker.dice).draw -/
def S116 (rP : Option Addr) (n : Int) (h : Heap) (R : Value → Heap → Prop) : Prop :=
  ∃ b o, rP = some ⟨b, o, none⟩ ∧ ∃ x : Int, hcell h b o = some (.int .u64 x) ∧ ∃ b2 o2, rP = some ⟨b2, o2, none⟩ ∧ (∃ u, hcell h b2 o2 = some u) ∧ hfree h b2 o2 = true ∧ let hv : Heap := hset h b2 o2 (.int .u64 (IntKind.u64.wrap ((IntKind.u64.wrap (x * (6364136223846793005 : Int))) + (1442695040888963407 : Int))))
  ∃ b3 o3, rP = some ⟨b3, o3, none⟩ ∧ ∃ x2 : Int, hcell hv b3 o3 = some (.int .u64 x2) ∧ 0 ≤ (33 : Int) ∧ (IntKind.u64.wrap n) ≠ 0 ∧ R (.int .i64 (IntKind.i64.wrap (Int.tmod (Int.fdiv x2 (2 ^ (min (Int.toNat (33 : Int)) 64))) (IntKind.u64.wrap n)))) hv

theorem calls116 {h : Heap} {R : Value → Heap → Prop} (rP : Option Addr) (n : Int) (H : S116 rP n h R) : CallsH Try.prog 116 #[.pointer rP, .int .i64 n] h R := by
  have e : S116 rP n h R = FX (envX [] 23) { loops := [], joins := [], blocks := [], draws := [] } Try.f116 (Try.f116.body.getD .skip) [.pointer rP, .int .i64 n] h R := by kernel_rfl
  exact calls_of_FX (envX_ok _ _) Try.func116 (by kernel_rfl) (by kernel_rfl) (by kernel_rfl) (e ▸ H)

/-- (*tracery/maker.dice).draw -/
def Ok116 (sV : Int) (n : Int) (R : Int → Int → Prop) : Prop :=
  ∀ (h : Heap) (rB : Nat), Hp h [Ck.ob rB 166 [.int .u64 sV]] → CallsH Try.prog 116 #[.pointer (some ⟨rB, 0, none⟩), .int .i64 n] h fun v h' => ∃ (sV2 : Int) (rV : Int), Sy h (owns [Ck.ob rB 166 [.int .u64 sV]]) h' [Ck.ob rB 166 [.int .u64 sV2]] ∧ v = .int .i64 rV ∧ R sV2 rV
theorem Ok116.mono {sV n} {R R' : Int → Int → Prop} (H : Ok116 sV n R) (kz : ∀ sV2 rV, R sV2 rV → R' sV2 rV) : Ok116 sV n R' :=
  fun h rB hp => (H h rB hp).mono fun _ _ ⟨sV2, rV, P, e, q⟩ => ⟨sV2, rV, P, e, kz _ _ q⟩

def T116 (sV : Int) (n : Int) (R : Int → Int → Prop) : Prop :=
  0 ≤ (33 : Int) ∧ (IntKind.u64.wrap n) ≠ 0 ∧ R (IntKind.u64.wrap ((IntKind.u64.wrap (sV * (6364136223846793005 : Int))) + (1442695040888963407 : Int))) (IntKind.i64.wrap (Int.tmod (Int.fdiv (IntKind.u64.wrap ((IntKind.u64.wrap (sV * (6364136223846793005 : Int))) + (1442695040888963407 : Int))) (2 ^ (min (Int.toNat (33 : Int)) 64))) (IntKind.u64.wrap n)))

theorem ok116 {sV n} {R : Int → Int → Prop} (T : T116 sV n R) : Ok116 sV n R := by
  intro h rB H
  have Y : Sy h (owns [Ck.ob rB 166 [.int .u64 sV]]) h _ := Sy.startM H rfl
  apply calls116
  unfold S116
  unfold T116 at T
  refine ⟨rB, 0, rfl, ?_⟩
  refine ⟨_, Y.cellO 0 rfl 0 rfl, ?_⟩
  refine ⟨rB, 0, rfl, ?_⟩
  refine ⟨⟨_, Y.cellO 0 rfl 0 rfl⟩, Y.freeO 0 rfl _, ?_⟩
  intro hv
  have Y : Sy _ _ hv [_] := (Y.stO 0 rfl 0 _)
  clear_value hv
  refine ⟨rB, 0, rfl, ?_⟩
  refine ⟨_, Y.cellO 0 rfl 0 rfl, ?_⟩
  obtain ⟨q_2, T⟩ := T
  refine ⟨q_2, ?_⟩
  obtain ⟨q, T⟩ := T
  refine ⟨q, ?_⟩
  exact ⟨_, _, Y.pick [0] rfl, rfl, T⟩

/-- tracery/maker.Cycle$1 -/
def S120 (dP : Option Addr) (fv : Option Addr) (h : Heap) (R : Value → Heap → Prop) : Prop :=
  ∃ b o, fv = some ⟨b, o, none⟩ ∧ ∃ x : Int, hcell h b o = some (.int .i64 x) ∧ callX Try.prog 115 #[.pointer dP, .int .i64 0, .int .i64 x] h [] fun v hv =>
  v = .tuple #[] ∧
  R (.tuple #[]) hv

theorem calls120 {h : Heap} {R : Value → Heap → Prop} (dP : Option Addr) (fv : Option Addr) (H : S120 dP fv h R) : CallsH Try.prog 120 #[.pointer dP, .pointer fv] h R := by
  have e : S120 dP fv h R = FX (envX [] 6) { loops := [], joins := [], blocks := [], draws := [] } Try.f120 (Try.f120.body.getD .skip) [.pointer dP, .pointer fv] h R := by kernel_rfl
  exact calls_of_FX (envX_ok _ _) Try.func120 (by kernel_rfl) (by kernel_rfl) (by kernel_rfl) (e ▸ H)

/-- tracery/maker.Cycle$1 -/
def Ok120 (nV : Int) (edgesV : List (Int × Int)) (fvV : Int) (R : Int → List (Int × Int) → Prop) : Prop :=
  ∀ (h : Heap) (dB : Nat) (edgesVA : Option Addr) (edgesVL edgesVC : Nat) (fvB fvO : Nat), Hp h [Ck.ob dB 229 [.int .i64 nV, .slice edgesVA edgesVL edgesVC], Ck.sl eP 35 edgesVA edgesVL edgesVC edgesV, Ck.vob fvB fvO [.int .i64 fvV]] → CallsH Try.prog 120 #[.pointer (some ⟨dB, 0, none⟩), .pointer (some ⟨fvB, fvO, none⟩)] h fun v h' => ∃ (edgesVA2 : Option Addr) (edgesVL2 edgesVC2 : Nat) (edgesV1 : List (Int × Int)) (nV2 : Int), Sy h (owns [Ck.ob dB 229 [.int .i64 nV, .slice edgesVA edgesVL edgesVC], Ck.sl eP 35 edgesVA edgesVL edgesVC edgesV]) h' [Ck.ob dB 229 [.int .i64 nV2, .slice edgesVA2 edgesVL2 edgesVC2], Ck.sl eP 35 edgesVA2 edgesVL2 edgesVC2 edgesV1] ∧ v = .tuple #[] ∧ R nV2 edgesV1
theorem Ok120.mono {nV edgesV fvV} {R R' : Int → List (Int × Int) → Prop} (H : Ok120 nV edgesV fvV R) (kz : ∀ nV2 edgesV1, R nV2 edgesV1 → R' nV2 edgesV1) : Ok120 nV edgesV fvV R' :=
  fun h dB edgesVA edgesVL edgesVC fvB fvO hp => (H h dB edgesVA edgesVL edgesVC fvB fvO hp).mono fun _ _ ⟨edgesVA2, edgesVL2, edgesVC2, edgesV1, nV2, P, e, q⟩ => ⟨edgesVA2, edgesVL2, edgesVC2, edgesV1, nV2, P, e, kz _ _ q⟩

def T120 (nV : Int) (edgesV : List (Int × Int)) (fvV : Int) (R : Int → List (Int × Int) → Prop) : Prop :=
  Ok115 nV edgesV 0 fvV (fun nV2_2 edgesV1_2 =>
  R nV2_2 edgesV1_2)

theorem ok120 {nV edgesV fvV} {R : Int → List (Int × Int) → Prop} (T : T120 nV edgesV fvV R) : Ok120 nV edgesV fvV R := by
  intro h dB edgesVA edgesVL edgesVC fvB fvO H
  have Y : Sy h (owns [Ck.ob dB 229 [.int .i64 nV, .slice edgesVA edgesVL edgesVC], Ck.sl eP 35 edgesVA edgesVL edgesVC edgesV]) h _ := Sy.startM H rfl
  obtain rfl := Y.lenS 1 rfl
  apply calls120
  unfold S120
  unfold T120 at T
  refine ⟨fvB, fvO, rfl, ?_⟩
  refine ⟨_, Y.cellW 2 rfl 0 rfl, ?_⟩
  refine callX_sy (T _ _ _ _ _ (Y.pick [0, 1] rfl).hp) (fun _ _ ⟨_, _, _, _, _, p, _⟩ => p.fr) alln ?_
  rintro v hv ⟨edgesVA2_2, edgesVL2_2, edgesVC2_2, edgesV1_2, nV2_2, PP, rfl, T⟩
  have Y : Sy _ _ hv [_, _, _] := Y.call2 [0, 1, 2] rfl (A := [_, _]) rfl rfl PP ⟨rfl, ⟨rfl, trivial⟩⟩
  clear PP
  obtain rfl := Y.lenS 1 rfl
  refine ⟨rfl, ?_⟩
  exact ⟨_, _, _, _, _, Y.pick [0, 1] rfl, rfl, T⟩

/-- tracery/maker.Wheel$1 -/
def S121 (dP : Option Addr) (fv : Option Addr) (h : Heap) (R : Value → Heap → Prop) : Prop :=
  ∃ b o, fv = some ⟨b, o, none⟩ ∧ ∃ x : Int, hcell h b o = some (.int .i64 x) ∧ callX Try.prog 115 #[.pointer dP, .int .i64 0, .int .i64 x] h [] fun v hv =>
  v = .tuple #[] ∧
  ∃ b2 o2, fv = some ⟨b2, o2, none⟩ ∧ ∃ x2 : Int, hcell hv b2 o2 = some (.int .i64 x2) ∧ ∃ (Iv : List Value → Heap → Prop) (m : List Value → Heap → Nat), Iv [.int .i64 0] hv ∧ -- loop 0: ['8']
  ∀ x3 : Int, ∀ hv2, Iv [.int .i64 x3] hv2 →
  cnd (decide (x3 < x2))
    (∃ b3 o3, fv = some ⟨b3, o3, none⟩ ∧ ∃ x4 : Int, hcell hv2 b3 o3 = some (.int .i64 x4) ∧ callX Try.prog 117 #[.pointer dP, .int .i64 x4, .int .i64 x3] hv2 [] fun v2 hv3 =>
    v2 = .tuple #[] ∧
    Iv [.int .i64 (IntKind.i64.wrap (x3 + (1 : Int)))] hv3 ∧ m [.int .i64 (IntKind.i64.wrap (x3 + (1 : Int)))] hv3 < m [.int .i64 x3] hv2)
    (R (.tuple #[]) hv2)

theorem calls121 {h : Heap} {R : Value → Heap → Prop} (dP : Option Addr) (fv : Option Addr) (H : S121 dP fv h R) : CallsH Try.prog 121 #[.pointer dP, .pointer fv] h R := by
  have e : S121 dP fv h R = FX (envX [] 16) { loops := [(0, ⟨[0, 1, 7], [8], [], []⟩)], joins := [], blocks := [], draws := [] } Try.f121 (Try.f121.body.getD .skip) [.pointer dP, .pointer fv] h R := by kernel_rfl
  exact calls_of_FX (envX_ok _ _) Try.func121 (by kernel_rfl) (by kernel_rfl) (by kernel_rfl) (e ▸ H)

/-- tracery/maker.Wheel$1 -/
def Ok121 (nV : Int) (edgesV : List (Int × Int)) (fvV : Int) (R : Int → List (Int × Int) → Prop) : Prop :=
  ∀ (h : Heap) (dB : Nat) (edgesVA : Option Addr) (edgesVL edgesVC : Nat) (fvB fvO : Nat), Hp h [Ck.ob dB 229 [.int .i64 nV, .slice edgesVA edgesVL edgesVC], Ck.sl eP 35 edgesVA edgesVL edgesVC edgesV, Ck.vob fvB fvO [.int .i64 fvV]] → CallsH Try.prog 121 #[.pointer (some ⟨dB, 0, none⟩), .pointer (some ⟨fvB, fvO, none⟩)] h fun v h' => ∃ (edgesVA2 : Option Addr) (edgesVL2 edgesVC2 : Nat) (edgesV1 : List (Int × Int)) (nV2 : Int), Sy h (owns [Ck.ob dB 229 [.int .i64 nV, .slice edgesVA edgesVL edgesVC], Ck.sl eP 35 edgesVA edgesVL edgesVC edgesV]) h' [Ck.ob dB 229 [.int .i64 nV2, .slice edgesVA2 edgesVL2 edgesVC2], Ck.sl eP 35 edgesVA2 edgesVL2 edgesVC2 edgesV1] ∧ v = .tuple #[] ∧ R nV2 edgesV1
theorem Ok121.mono {nV edgesV fvV} {R R' : Int → List (Int × Int) → Prop} (H : Ok121 nV edgesV fvV R) (kz : ∀ nV2 edgesV1, R nV2 edgesV1 → R' nV2 edgesV1) : Ok121 nV edgesV fvV R' :=
  fun h dB edgesVA edgesVL edgesVC fvB fvO hp => (H h dB edgesVA edgesVL edgesVC fvB fvO hp).mono fun _ _ ⟨edgesVA2, edgesVL2, edgesVC2, edgesV1, nV2, P, e, q⟩ => ⟨edgesVA2, edgesVL2, edgesVC2, edgesV1, nV2, P, e, kz _ _ q⟩

def T121 (nV : Int) (edgesV : List (Int × Int)) (fvV : Int) (R : Int → List (Int × Int) → Prop) : Prop :=
  Ok115 nV edgesV 0 fvV (fun nV2_2 edgesV1_2 =>
  ∃ (Iv : Int → Int → List (Int × Int) → Prop) (m : Int → Int → List (Int × Int) → Nat), Iv 0 nV2_2 edgesV1_2 ∧
  ∀ x3 : Int, ∀ nV_2 : Int, ∀ edgesV_2 : List (Int × Int), Iv x3 nV_2 edgesV_2 →
  cnd (decide (x3 < fvV))
    (Ok117 nV_2 edgesV_2 fvV x3 (fun nV2_3 edgesV1_3 =>
    Iv (IntKind.i64.wrap (x3 + (1 : Int))) nV2_3 edgesV1_3 ∧ m (IntKind.i64.wrap (x3 + (1 : Int))) nV2_3 edgesV1_3 < m x3 nV_2 edgesV_2))
    (R nV_2 edgesV_2))

theorem ok121 {nV edgesV fvV} {R : Int → List (Int × Int) → Prop} (T : T121 nV edgesV fvV R) : Ok121 nV edgesV fvV R := by
  intro h dB edgesVA edgesVL edgesVC fvB fvO H
  have Y : Sy h (owns [Ck.ob dB 229 [.int .i64 nV, .slice edgesVA edgesVL edgesVC], Ck.sl eP 35 edgesVA edgesVL edgesVC edgesV]) h _ := Sy.startM H rfl
  obtain rfl := Y.lenS 1 rfl
  apply calls121
  unfold S121
  unfold T121 at T
  refine ⟨fvB, fvO, rfl, ?_⟩
  refine ⟨_, Y.cellW 2 rfl 0 rfl, ?_⟩
  refine callX_sy (T _ _ _ _ _ (Y.pick [0, 1] rfl).hp) (fun _ _ ⟨_, _, _, _, _, p, _⟩ => p.fr) alln ?_
  rintro v hv ⟨edgesVA2_2, edgesVL2_2, edgesVC2_2, edgesV1_2, nV2_2, PP, rfl, T⟩
  have Y : Sy _ _ hv [_, _, _] := Y.call2 [0, 1, 2] rfl (A := [_, _]) rfl rfl PP ⟨rfl, ⟨rfl, trivial⟩⟩
  clear PP
  obtain rfl := Y.lenS 1 rfl
  refine ⟨rfl, ?_⟩
  refine ⟨fvB, fvO, rfl, ?_⟩
  refine ⟨_, Y.cellW 2 rfl 0 rfl, ?_⟩
  obtain ⟨Iv, m, T0, T1⟩ := T
  obtain ⟨B, hB, YB⟩ := Y.cut [0, 1] [2] rfl
  obtain ⟨F, hF⟩ := Y.fnO (k := 0) [0, 1] rfl
  obtain ⟨JJ, hJJ⟩ : ∃ JJ : Nat → List Value → Heap → Prop, JJ = (fun k lz h' => ∃ (x3 : Int) (nV_2 : Int) (cA : Option Addr) (cL cC : Nat) (edgesV_2 : List (Int × Int)), lz = [.int .i64 x3] ∧ Sy h (owns [Ck.ob dB 229 [.int .i64 nV, .slice edgesVA edgesV.length edgesVC], Ck.sl eP 35 edgesVA edgesV.length edgesVC edgesV]) h' ([F [.int .i64 nV_2, .slice cA cL cC], Ck.sl eP 35 cA cL cC edgesV_2] ++ B) ∧ Iv x3 nV_2 edgesV_2 ∧ m x3 nV_2 edgesV_2 = k) := ⟨_, rfl⟩
  refine ⟨fun lz h' => ∃ k, JJ k lz h', Lm JJ, ?_, ?_⟩
  · subst hJJ hB hF
    exact ⟨_, _, _, _, _, _, _, rfl, YB, T0, rfl⟩
  · clear YB T0 Y
    intro x3 hv2 hI
    obtain ⟨k, hI, hm⟩ := loopIn hI
    subst hJJ hB hF
    obtain ⟨x3, nV_2, cA, cL, cC, edgesV_2, e, Y, T, rfl⟩ := hI
    cases e
    obtain rfl := Y.lenS 1 rfl
    replace T := T1 x3 nV_2 edgesV_2 T
    have Y : Sy _ _ _ [_, _, _] := Y
    refine cnd_imp T (fun T => ?_) (fun T => ?_)
    · refine ⟨fvB, fvO, rfl, ?_⟩
      refine ⟨_, Y.cellW 2 rfl 0 rfl, ?_⟩
      refine callX_sy (T _ _ _ _ _ (Y.pick [0, 1] rfl).hp) (fun _ _ ⟨_, _, _, _, _, p, _⟩ => p.fr) alln ?_
      rintro v2 hv3 ⟨edgesVA2_3, edgesVL2_3, edgesVC2_3, edgesV1_3, nV2_3, PP, rfl, T⟩
      have Y : Sy _ _ hv3 [_, _, _] := Y.call2 [0, 1, 2] rfl (A := [_, _]) rfl rfl PP ⟨rfl, ⟨rfl, trivial⟩⟩
      clear PP
      obtain rfl := Y.lenS 1 rfl
      refine ⟨rfl, ?_⟩
      exact loopBack hm ⟨_, _, _, _, _, _, rfl, Y.pick [0, 1, 2] rfl, T.1, rfl⟩ T.2
    · exact ⟨_, _, _, _, _, Y.pick [0, 1] rfl, rfl, T⟩

/-- tracery/maker.Prism$1 -/
def S122 (dP : Option Addr) (fv : Option Addr) (h : Heap) (R : Value → Heap → Prop) : Prop :=
  ∃ b o, fv = some ⟨b, o, none⟩ ∧ ∃ x : Int, hcell h b o = some (.int .i64 x) ∧ callX Try.prog 115 #[.pointer dP, .int .i64 0, .int .i64 x] h [] fun v hv =>
  v = .tuple #[] ∧
  ∃ b2 o2, fv = some ⟨b2, o2, none⟩ ∧ ∃ x2 : Int, hcell hv b2 o2 = some (.int .i64 x2) ∧ ∃ b3 o3, fv = some ⟨b3, o3, none⟩ ∧ ∃ x3 : Int, hcell hv b3 o3 = some (.int .i64 x3) ∧ callX Try.prog 115 #[.pointer dP, .int .i64 x2, .int .i64 x3] hv [] fun v2 hv2 =>
  v2 = .tuple #[] ∧
  ∃ b4 o4, fv = some ⟨b4, o4, none⟩ ∧ ∃ x4 : Int, hcell hv2 b4 o4 = some (.int .i64 x4) ∧ ∃ (Iv : List Value → Heap → Prop) (m : List Value → Heap → Nat), Iv [.int .i64 0] hv2 ∧ -- loop 0: ['12']
  ∀ x5 : Int, ∀ hv3, Iv [.int .i64 x5] hv3 →
  cnd (decide (x5 < x4))
    (∃ b5 o5, fv = some ⟨b5, o5, none⟩ ∧ ∃ x6 : Int, hcell hv3 b5 o5 = some (.int .i64 x6) ∧ callX Try.prog 117 #[.pointer dP, .int .i64 x5, .int .i64 (IntKind.i64.wrap (x6 + x5))] hv3 [] fun v3 hv4 =>
    v3 = .tuple #[] ∧
    Iv [.int .i64 (IntKind.i64.wrap (x5 + (1 : Int)))] hv4 ∧ m [.int .i64 (IntKind.i64.wrap (x5 + (1 : Int)))] hv4 < m [.int .i64 x5] hv3)
    (R (.tuple #[]) hv3)

theorem calls122 {h : Heap} {R : Value → Heap → Prop} (dP : Option Addr) (fv : Option Addr) (H : S122 dP fv h R) : CallsH Try.prog 122 #[.pointer dP, .pointer fv] h R := by
  have e : S122 dP fv h R = FX (envX [] 22) { loops := [(0, ⟨[0, 1, 11], [12], [], []⟩)], joins := [], blocks := [], draws := [] } Try.f122 (Try.f122.body.getD .skip) [.pointer dP, .pointer fv] h R := by kernel_rfl
  exact calls_of_FX (envX_ok _ _) Try.func122 (by kernel_rfl) (by kernel_rfl) (by kernel_rfl) (e ▸ H)

/-- tracery/maker.Prism$1 -/
def Ok122 (nV : Int) (edgesV : List (Int × Int)) (fvV : Int) (R : Int → List (Int × Int) → Prop) : Prop :=
  ∀ (h : Heap) (dB : Nat) (edgesVA : Option Addr) (edgesVL edgesVC : Nat) (fvB fvO : Nat), Hp h [Ck.ob dB 229 [.int .i64 nV, .slice edgesVA edgesVL edgesVC], Ck.sl eP 35 edgesVA edgesVL edgesVC edgesV, Ck.vob fvB fvO [.int .i64 fvV]] → CallsH Try.prog 122 #[.pointer (some ⟨dB, 0, none⟩), .pointer (some ⟨fvB, fvO, none⟩)] h fun v h' => ∃ (edgesVA2 : Option Addr) (edgesVL2 edgesVC2 : Nat) (edgesV1 : List (Int × Int)) (nV2 : Int), Sy h (owns [Ck.ob dB 229 [.int .i64 nV, .slice edgesVA edgesVL edgesVC], Ck.sl eP 35 edgesVA edgesVL edgesVC edgesV]) h' [Ck.ob dB 229 [.int .i64 nV2, .slice edgesVA2 edgesVL2 edgesVC2], Ck.sl eP 35 edgesVA2 edgesVL2 edgesVC2 edgesV1] ∧ v = .tuple #[] ∧ R nV2 edgesV1
theorem Ok122.mono {nV edgesV fvV} {R R' : Int → List (Int × Int) → Prop} (H : Ok122 nV edgesV fvV R) (kz : ∀ nV2 edgesV1, R nV2 edgesV1 → R' nV2 edgesV1) : Ok122 nV edgesV fvV R' :=
  fun h dB edgesVA edgesVL edgesVC fvB fvO hp => (H h dB edgesVA edgesVL edgesVC fvB fvO hp).mono fun _ _ ⟨edgesVA2, edgesVL2, edgesVC2, edgesV1, nV2, P, e, q⟩ => ⟨edgesVA2, edgesVL2, edgesVC2, edgesV1, nV2, P, e, kz _ _ q⟩

def T122 (nV : Int) (edgesV : List (Int × Int)) (fvV : Int) (R : Int → List (Int × Int) → Prop) : Prop :=
  Ok115 nV edgesV 0 fvV (fun nV2_2 edgesV1_2 =>
  Ok115 nV2_2 edgesV1_2 fvV fvV (fun nV2_3 edgesV1_3 =>
  ∃ (Iv : Int → Int → List (Int × Int) → Prop) (m : Int → Int → List (Int × Int) → Nat), Iv 0 nV2_3 edgesV1_3 ∧
  ∀ x5 : Int, ∀ nV_2 : Int, ∀ edgesV_2 : List (Int × Int), Iv x5 nV_2 edgesV_2 →
  cnd (decide (x5 < fvV))
    (Ok117 nV_2 edgesV_2 x5 (IntKind.i64.wrap (fvV + x5)) (fun nV2_4 edgesV1_4 =>
    Iv (IntKind.i64.wrap (x5 + (1 : Int))) nV2_4 edgesV1_4 ∧ m (IntKind.i64.wrap (x5 + (1 : Int))) nV2_4 edgesV1_4 < m x5 nV_2 edgesV_2))
    (R nV_2 edgesV_2)))

theorem ok122 {nV edgesV fvV} {R : Int → List (Int × Int) → Prop} (T : T122 nV edgesV fvV R) : Ok122 nV edgesV fvV R := by
  intro h dB edgesVA edgesVL edgesVC fvB fvO H
  have Y : Sy h (owns [Ck.ob dB 229 [.int .i64 nV, .slice edgesVA edgesVL edgesVC], Ck.sl eP 35 edgesVA edgesVL edgesVC edgesV]) h _ := Sy.startM H rfl
  obtain rfl := Y.lenS 1 rfl
  apply calls122
  unfold S122
  unfold T122 at T
  refine ⟨fvB, fvO, rfl, ?_⟩
  refine ⟨_, Y.cellW 2 rfl 0 rfl, ?_⟩
  refine callX_sy (T _ _ _ _ _ (Y.pick [0, 1] rfl).hp) (fun _ _ ⟨_, _, _, _, _, p, _⟩ => p.fr) alln ?_
  rintro v hv ⟨edgesVA2_2, edgesVL2_2, edgesVC2_2, edgesV1_2, nV2_2, PP, rfl, T⟩
  have Y : Sy _ _ hv [_, _, _] := Y.call2 [0, 1, 2] rfl (A := [_, _]) rfl rfl PP ⟨rfl, ⟨rfl, trivial⟩⟩
  clear PP
  obtain rfl := Y.lenS 1 rfl
  refine ⟨rfl, ?_⟩
  refine ⟨fvB, fvO, rfl, ?_⟩
  refine ⟨_, Y.cellW 2 rfl 0 rfl, ?_⟩
  refine ⟨fvB, fvO, rfl, ?_⟩
  refine ⟨_, Y.cellW 2 rfl 0 rfl, ?_⟩
  refine callX_sy (T _ _ _ _ _ (Y.pick [0, 1] rfl).hp) (fun _ _ ⟨_, _, _, _, _, p, _⟩ => p.fr) alln ?_
  rintro v2 hv2 ⟨edgesVA2_3, edgesVL2_3, edgesVC2_3, edgesV1_3, nV2_3, PP, rfl, T⟩
  have Y : Sy _ _ hv2 [_, _, _] := Y.call2 [0, 1, 2] rfl (A := [_, _]) rfl rfl PP ⟨rfl, ⟨rfl, trivial⟩⟩
  clear PP
  obtain rfl := Y.lenS 1 rfl
  refine ⟨rfl, ?_⟩
  refine ⟨fvB, fvO, rfl, ?_⟩
  refine ⟨_, Y.cellW 2 rfl 0 rfl, ?_⟩
  obtain ⟨Iv, m, T0, T1⟩ := T
  obtain ⟨B, hB, YB⟩ := Y.cut [0, 1] [2] rfl
  obtain ⟨F, hF⟩ := Y.fnO (k := 0) [0, 1] rfl
  obtain ⟨JJ, hJJ⟩ : ∃ JJ : Nat → List Value → Heap → Prop, JJ = (fun k lz h' => ∃ (x5 : Int) (nV_2 : Int) (cA : Option Addr) (cL cC : Nat) (edgesV_2 : List (Int × Int)), lz = [.int .i64 x5] ∧ Sy h (owns [Ck.ob dB 229 [.int .i64 nV, .slice edgesVA edgesV.length edgesVC], Ck.sl eP 35 edgesVA edgesV.length edgesVC edgesV]) h' ([F [.int .i64 nV_2, .slice cA cL cC], Ck.sl eP 35 cA cL cC edgesV_2] ++ B) ∧ Iv x5 nV_2 edgesV_2 ∧ m x5 nV_2 edgesV_2 = k) := ⟨_, rfl⟩
  refine ⟨fun lz h' => ∃ k, JJ k lz h', Lm JJ, ?_, ?_⟩
  · subst hJJ hB hF
    exact ⟨_, _, _, _, _, _, _, rfl, YB, T0, rfl⟩
  · clear YB T0 Y
    intro x5 hv3 hI
    obtain ⟨k, hI, hm⟩ := loopIn hI
    subst hJJ hB hF
    obtain ⟨x5, nV_2, cA, cL, cC, edgesV_2, e, Y, T, rfl⟩ := hI
    cases e
    obtain rfl := Y.lenS 1 rfl
    replace T := T1 x5 nV_2 edgesV_2 T
    have Y : Sy _ _ _ [_, _, _] := Y
    refine cnd_imp T (fun T => ?_) (fun T => ?_)
    · refine ⟨fvB, fvO, rfl, ?_⟩
      refine ⟨_, Y.cellW 2 rfl 0 rfl, ?_⟩
      refine callX_sy (T _ _ _ _ _ (Y.pick [0, 1] rfl).hp) (fun _ _ ⟨_, _, _, _, _, p, _⟩ => p.fr) alln ?_
      rintro v3 hv4 ⟨edgesVA2_4, edgesVL2_4, edgesVC2_4, edgesV1_4, nV2_4, PP, rfl, T⟩
      have Y : Sy _ _ hv4 [_, _, _] := Y.call2 [0, 1, 2] rfl (A := [_, _]) rfl rfl PP ⟨rfl, ⟨rfl, trivial⟩⟩
      clear PP
      obtain rfl := Y.lenS 1 rfl
      refine ⟨rfl, ?_⟩
      exact loopBack hm ⟨_, _, _, _, _, _, rfl, Y.pick [0, 1, 2] rfl, T.1, rfl⟩ T.2
    · exact ⟨_, _, _, _, _, Y.pick [0, 1] rfl, rfl, T⟩

/-- tracery/maker.Complete$1 -/
def S123 (dP : Option Addr) (fv : Option Addr) (h : Heap) (R : Value → Heap → Prop) : Prop :=
  ∃ b o, fv = some ⟨b, o, none⟩ ∧ ∃ x : Int, hcell h b o = some (.int .i64 x) ∧ ∃ (Iv : List Value → Heap → Prop) (m : List Value → Heap → Nat), Iv [.int .i64 0] h ∧ -- loop 0: ['6']
  ∀ x2 : Int, ∀ hv, Iv [.int .i64 x2] hv →
  cnd (decide (x2 < x))
    (∃ (Iv2 : List Value → Heap → Prop) (m2 : List Value → Heap → Nat), Iv2 [.int .i64 (IntKind.i64.wrap (x2 + (1 : Int)))] hv ∧ -- loop 2: ['k']
    ∀ k : Int, ∀ hv2, Iv2 [.int .i64 k] hv2 →
    ∃ b2 o2, fv = some ⟨b2, o2, none⟩ ∧ ∃ x3 : Int, hcell hv2 b2 o2 = some (.int .i64 x3) ∧ cnd (decide (k < x3))
      (callX Try.prog 117 #[.pointer dP, .int .i64 x2, .int .i64 k] hv2 [] fun v hv3 =>
      v = .tuple #[] ∧
      Iv2 [.int .i64 (IntKind.i64.wrap (k + (1 : Int)))] hv3 ∧ m2 [.int .i64 (IntKind.i64.wrap (k + (1 : Int)))] hv3 < m2 [.int .i64 k] hv2)
      (Iv [.int .i64 (IntKind.i64.wrap (x2 + (1 : Int)))] hv2 ∧ m [.int .i64 (IntKind.i64.wrap (x2 + (1 : Int)))] hv2 < m [.int .i64 x2] hv))
    (R (.tuple #[]) hv)

theorem calls123 {h : Heap} {R : Value → Heap → Prop} (dP : Option Addr) (fv : Option Addr) (H : S123 dP fv h R) : CallsH Try.prog 123 #[.pointer dP, .pointer fv] h R := by
  have e : S123 dP fv h R = FX (envX [] 21) { loops := [(0, ⟨[0, 1, 5], [6], [], []⟩), (2, ⟨[0, 1, 3, 5, 6], [4], [], []⟩)], joins := [], blocks := [], draws := [] } Try.f123 (Try.f123.body.getD .skip) [.pointer dP, .pointer fv] h R := by kernel_rfl
  exact calls_of_FX (envX_ok _ _) Try.func123 (by kernel_rfl) (by kernel_rfl) (by kernel_rfl) (e ▸ H)

/-- tracery/maker.Complete$1 -/
def Ok123 (nV : Int) (edgesV : List (Int × Int)) (fvV : Int) (R : Int → List (Int × Int) → Prop) : Prop :=
  ∀ (h : Heap) (dB : Nat) (edgesVA : Option Addr) (edgesVL edgesVC : Nat) (fvB fvO : Nat), Hp h [Ck.ob dB 229 [.int .i64 nV, .slice edgesVA edgesVL edgesVC], Ck.sl eP 35 edgesVA edgesVL edgesVC edgesV, Ck.vob fvB fvO [.int .i64 fvV]] → CallsH Try.prog 123 #[.pointer (some ⟨dB, 0, none⟩), .pointer (some ⟨fvB, fvO, none⟩)] h fun v h' => ∃ (edgesVA2 : Option Addr) (edgesVL2 edgesVC2 : Nat) (edgesV1 : List (Int × Int)) (nV2 : Int), Sy h (owns [Ck.ob dB 229 [.int .i64 nV, .slice edgesVA edgesVL edgesVC], Ck.sl eP 35 edgesVA edgesVL edgesVC edgesV]) h' [Ck.ob dB 229 [.int .i64 nV2, .slice edgesVA2 edgesVL2 edgesVC2], Ck.sl eP 35 edgesVA2 edgesVL2 edgesVC2 edgesV1] ∧ v = .tuple #[] ∧ R nV2 edgesV1
theorem Ok123.mono {nV edgesV fvV} {R R' : Int → List (Int × Int) → Prop} (H : Ok123 nV edgesV fvV R) (kz : ∀ nV2 edgesV1, R nV2 edgesV1 → R' nV2 edgesV1) : Ok123 nV edgesV fvV R' :=
  fun h dB edgesVA edgesVL edgesVC fvB fvO hp => (H h dB edgesVA edgesVL edgesVC fvB fvO hp).mono fun _ _ ⟨edgesVA2, edgesVL2, edgesVC2, edgesV1, nV2, P, e, q⟩ => ⟨edgesVA2, edgesVL2, edgesVC2, edgesV1, nV2, P, e, kz _ _ q⟩

def T123 (nV : Int) (edgesV : List (Int × Int)) (fvV : Int) (R : Int → List (Int × Int) → Prop) : Prop :=
  ∃ (Iv : Int → Int → List (Int × Int) → Prop) (m : Int → Int → List (Int × Int) → Nat), Iv 0 nV edgesV ∧
  ∀ x2 : Int, ∀ nV_2 : Int, ∀ edgesV_2 : List (Int × Int), Iv x2 nV_2 edgesV_2 →
  cnd (decide (x2 < fvV))
    (∃ (Iv2 : Int → Int → List (Int × Int) → Prop) (m2 : Int → Int → List (Int × Int) → Nat), Iv2 (IntKind.i64.wrap (x2 + (1 : Int))) nV_2 edgesV_2 ∧
    ∀ k : Int, ∀ nV_3 : Int, ∀ edgesV_3 : List (Int × Int), Iv2 k nV_3 edgesV_3 →
    cnd (decide (k < fvV))
      (Ok117 nV_3 edgesV_3 x2 k (fun nV2_2 edgesV1_2 =>
      Iv2 (IntKind.i64.wrap (k + (1 : Int))) nV2_2 edgesV1_2 ∧ m2 (IntKind.i64.wrap (k + (1 : Int))) nV2_2 edgesV1_2 < m2 k nV_3 edgesV_3))
      (Iv (IntKind.i64.wrap (x2 + (1 : Int))) nV_3 edgesV_3 ∧ m (IntKind.i64.wrap (x2 + (1 : Int))) nV_3 edgesV_3 < m x2 nV_2 edgesV_2))
    (R nV_2 edgesV_2)

theorem ok123 {nV edgesV fvV} {R : Int → List (Int × Int) → Prop} (T : T123 nV edgesV fvV R) : Ok123 nV edgesV fvV R := by
  intro h dB edgesVA edgesVL edgesVC fvB fvO H
  have Y : Sy h (owns [Ck.ob dB 229 [.int .i64 nV, .slice edgesVA edgesVL edgesVC], Ck.sl eP 35 edgesVA edgesVL edgesVC edgesV]) h _ := Sy.startM H rfl
  obtain rfl := Y.lenS 1 rfl
  apply calls123
  unfold S123
  unfold T123 at T
  refine ⟨fvB, fvO, rfl, ?_⟩
  refine ⟨_, Y.cellW 2 rfl 0 rfl, ?_⟩
  obtain ⟨Iv, m, T0, T1⟩ := T
  obtain ⟨B, hB, YB⟩ := Y.cut [0, 1] [2] rfl
  obtain ⟨F, hF⟩ := Y.fnO (k := 0) [0, 1] rfl
  obtain ⟨JJ, hJJ⟩ : ∃ JJ : Nat → List Value → Heap → Prop, JJ = (fun k_2 lz h' => ∃ (x2 : Int) (nV_2 : Int) (cA : Option Addr) (cL cC : Nat) (edgesV_2 : List (Int × Int)), lz = [.int .i64 x2] ∧ Sy h (owns [Ck.ob dB 229 [.int .i64 nV, .slice edgesVA edgesV.length edgesVC], Ck.sl eP 35 edgesVA edgesV.length edgesVC edgesV]) h' ([F [.int .i64 nV_2, .slice cA cL cC], Ck.sl eP 35 cA cL cC edgesV_2] ++ B) ∧ Iv x2 nV_2 edgesV_2 ∧ m x2 nV_2 edgesV_2 = k_2) := ⟨_, rfl⟩
  refine ⟨fun lz h' => ∃ k_2, JJ k_2 lz h', Lm JJ, ?_, ?_⟩
  · subst hJJ hB hF
    exact ⟨_, _, _, _, _, _, _, rfl, YB, T0, rfl⟩
  · clear YB T0 Y
    intro x2 hv hI
    obtain ⟨k_2, hI, hm⟩ := loopIn hI
    subst hJJ hB hF
    obtain ⟨x2, nV_2, cA, cL, cC, edgesV_2, e, Y, T, rfl⟩ := hI
    cases e
    obtain rfl := Y.lenS 1 rfl
    replace T := T1 x2 nV_2 edgesV_2 T
    have Y : Sy _ _ _ [_, _, _] := Y
    refine cnd_imp T (fun T => ?_) (fun T => ?_)
    · obtain ⟨Iv2, m2, T0, T1⟩ := T
      obtain ⟨B_2, hB_2, YB⟩ := Y.cut [0, 1] [2] rfl
      obtain ⟨F_2, hF_2⟩ := Y.fnO (k := 0) [0, 1] rfl
      obtain ⟨JJ_2, hJJ_2⟩ : ∃ JJ_2 : Nat → List Value → Heap → Prop, JJ_2 = (fun k_3 lz h' => ∃ (k : Int) (nV_3 : Int) (cA_2 : Option Addr) (cL_2 cC_2 : Nat) (edgesV_3 : List (Int × Int)), lz = [.int .i64 k] ∧ Sy h (owns [Ck.ob dB 229 [.int .i64 nV, .slice edgesVA edgesV.length edgesVC], Ck.sl eP 35 edgesVA edgesV.length edgesVC edgesV]) h' ([F_2 [.int .i64 nV_3, .slice cA_2 cL_2 cC_2], Ck.sl eP 35 cA_2 cL_2 cC_2 edgesV_3] ++ B_2) ∧ Iv2 k nV_3 edgesV_3 ∧ m2 k nV_3 edgesV_3 = k_3) := ⟨_, rfl⟩
      refine ⟨fun lz h' => ∃ k_3, JJ_2 k_3 lz h', Lm JJ_2, ?_, ?_⟩
      · subst hJJ_2 hB_2 hF_2
        exact ⟨_, _, _, _, _, _, _, rfl, YB, T0, rfl⟩
      · clear YB T0 Y
        intro k hv2 hI
        obtain ⟨k_3, hI, hm_2⟩ := loopIn hI
        subst hJJ_2 hB_2 hF_2
        obtain ⟨k, nV_3, cA_2, cL_2, cC_2, edgesV_3, e, Y, T, rfl⟩ := hI
        cases e
        obtain rfl := Y.lenS 1 rfl
        replace T := T1 k nV_3 edgesV_3 T
        have Y : Sy _ _ _ [_, _, _] := Y
        refine ⟨fvB, fvO, rfl, ?_⟩
        refine ⟨_, Y.cellW 2 rfl 0 rfl, ?_⟩
        refine cnd_imp T (fun T => ?_) (fun T => ?_)
        · refine callX_sy (T _ _ _ _ _ (Y.pick [0, 1] rfl).hp) (fun _ _ ⟨_, _, _, _, _, p, _⟩ => p.fr) alln ?_
          rintro v hv3 ⟨edgesVA2_2, edgesVL2_2, edgesVC2_2, edgesV1_2, nV2_2, PP, rfl, T⟩
          have Y : Sy _ _ hv3 [_, _, _] := Y.call2 [0, 1, 2] rfl (A := [_, _]) rfl rfl PP ⟨rfl, ⟨rfl, trivial⟩⟩
          clear PP
          obtain rfl := Y.lenS 1 rfl
          refine ⟨rfl, ?_⟩
          exact loopBack hm_2 ⟨_, _, _, _, _, _, rfl, Y.pick [0, 1, 2] rfl, T.1, rfl⟩ T.2
        · exact loopBack hm ⟨_, _, _, _, _, _, rfl, Y.pick [0, 1, 2] rfl, T.1, rfl⟩ T.2
    · exact ⟨_, _, _, _, _, Y.pick [0, 1] rfl, rfl, T⟩

/-- tracery/maker.Two$1 -/
def S125 (dP : Option Addr) (fv : Option Addr) (fv2 : Option Addr) (h : Heap) (R : Value → Heap → Prop) : Prop :=
  ∃ b o, fv = some ⟨b, o, none⟩ ∧ ∃ x : Int, hcell h b o = some (.int .i64 x) ∧ ∃ (Iv : List Value → Heap → Prop) (m : List Value → Heap → Nat), Iv [.int .i64 0] h ∧ -- loop 0: ['7']
  ∀ x2 : Int, ∀ hv, Iv [.int .i64 x2] hv →
  cnd (decide (x2 < x))
    (∃ b2 o2, fv2 = some ⟨b2, o2, none⟩ ∧ ∃ x3 : Int, hcell hv b2 o2 = some (.int .i64 x3) ∧ ∃ (Iv2 : List Value → Heap → Prop) (m2 : List Value → Heap → Nat), Iv2 [.int .i64 0] hv ∧ -- loop 2: ['11']
    ∀ x4 : Int, ∀ hv2, Iv2 [.int .i64 x4] hv2 →
    cnd (decide (x4 < x3))
      (∃ b3 o3, fv = some ⟨b3, o3, none⟩ ∧ ∃ x5 : Int, hcell hv2 b3 o3 = some (.int .i64 x5) ∧ callX Try.prog 117 #[.pointer dP, .int .i64 x2, .int .i64 (IntKind.i64.wrap (x5 + x4))] hv2 [] fun v hv3 =>
      v = .tuple #[] ∧
      Iv2 [.int .i64 (IntKind.i64.wrap (x4 + (1 : Int)))] hv3 ∧ m2 [.int .i64 (IntKind.i64.wrap (x4 + (1 : Int)))] hv3 < m2 [.int .i64 x4] hv2)
      (Iv [.int .i64 (IntKind.i64.wrap (x2 + (1 : Int)))] hv2 ∧ m [.int .i64 (IntKind.i64.wrap (x2 + (1 : Int)))] hv2 < m [.int .i64 x2] hv))
    (R (.tuple #[]) hv)

theorem calls125 {h : Heap} {R : Value → Heap → Prop} (dP : Option Addr) (fv : Option Addr) (fv2 : Option Addr) (H : S125 dP fv fv2 h R) : CallsH Try.prog 125 #[.pointer dP, .pointer fv, .pointer fv2] h R := by
  have e : S125 dP fv fv2 h R = FX (envX [] 22) { loops := [(0, ⟨[0, 1, 2, 6], [7], [], []⟩), (2, ⟨[0, 1, 2, 4, 6, 7, 10], [11], [], []⟩)], joins := [], blocks := [], draws := [] } Try.f125 (Try.f125.body.getD .skip) [.pointer dP, .pointer fv, .pointer fv2] h R := by kernel_rfl
  exact calls_of_FX (envX_ok _ _) Try.func125 (by kernel_rfl) (by kernel_rfl) (by kernel_rfl) (e ▸ H)

/-- tracery/maker.Two$1 -/
def Ok125 (nV : Int) (edgesV : List (Int × Int)) (fvV : Int) (fvV2 : Int) (R : Int → List (Int × Int) → Prop) : Prop :=
  ∀ (h : Heap) (dB : Nat) (edgesVA : Option Addr) (edgesVL edgesVC : Nat) (fvB fvO : Nat) (fvB2 fvO2 : Nat), Hp h [Ck.ob dB 229 [.int .i64 nV, .slice edgesVA edgesVL edgesVC], Ck.sl eP 35 edgesVA edgesVL edgesVC edgesV, Ck.vob fvB fvO [.int .i64 fvV], Ck.vob fvB2 fvO2 [.int .i64 fvV2]] → CallsH Try.prog 125 #[.pointer (some ⟨dB, 0, none⟩), .pointer (some ⟨fvB, fvO, none⟩), .pointer (some ⟨fvB2, fvO2, none⟩)] h fun v h' => ∃ (edgesVA2 : Option Addr) (edgesVL2 edgesVC2 : Nat) (edgesV1 : List (Int × Int)) (nV2 : Int), Sy h (owns [Ck.ob dB 229 [.int .i64 nV, .slice edgesVA edgesVL edgesVC], Ck.sl eP 35 edgesVA edgesVL edgesVC edgesV]) h' [Ck.ob dB 229 [.int .i64 nV2, .slice edgesVA2 edgesVL2 edgesVC2], Ck.sl eP 35 edgesVA2 edgesVL2 edgesVC2 edgesV1] ∧ v = .tuple #[] ∧ R nV2 edgesV1
theorem Ok125.mono {nV edgesV fvV fvV2} {R R' : Int → List (Int × Int) → Prop} (H : Ok125 nV edgesV fvV fvV2 R) (kz : ∀ nV2 edgesV1, R nV2 edgesV1 → R' nV2 edgesV1) : Ok125 nV edgesV fvV fvV2 R' :=
  fun h dB edgesVA edgesVL edgesVC fvB fvO fvB2 fvO2 hp => (H h dB edgesVA edgesVL edgesVC fvB fvO fvB2 fvO2 hp).mono fun _ _ ⟨edgesVA2, edgesVL2, edgesVC2, edgesV1, nV2, P, e, q⟩ => ⟨edgesVA2, edgesVL2, edgesVC2, edgesV1, nV2, P, e, kz _ _ q⟩

def T125 (nV : Int) (edgesV : List (Int × Int)) (fvV : Int) (fvV2 : Int) (R : Int → List (Int × Int) → Prop) : Prop :=
  ∃ (Iv : Int → Int → List (Int × Int) → Prop) (m : Int → Int → List (Int × Int) → Nat), Iv 0 nV edgesV ∧
  ∀ x2 : Int, ∀ nV_2 : Int, ∀ edgesV_2 : List (Int × Int), Iv x2 nV_2 edgesV_2 →
  cnd (decide (x2 < fvV))
    (∃ (Iv2 : Int → Int → List (Int × Int) → Prop) (m2 : Int → Int → List (Int × Int) → Nat), Iv2 0 nV_2 edgesV_2 ∧
    ∀ x4 : Int, ∀ nV_3 : Int, ∀ edgesV_3 : List (Int × Int), Iv2 x4 nV_3 edgesV_3 →
    cnd (decide (x4 < fvV2))
      (Ok117 nV_3 edgesV_3 x2 (IntKind.i64.wrap (fvV + x4)) (fun nV2_2 edgesV1_2 =>
      Iv2 (IntKind.i64.wrap (x4 + (1 : Int))) nV2_2 edgesV1_2 ∧ m2 (IntKind.i64.wrap (x4 + (1 : Int))) nV2_2 edgesV1_2 < m2 x4 nV_3 edgesV_3))
      (Iv (IntKind.i64.wrap (x2 + (1 : Int))) nV_3 edgesV_3 ∧ m (IntKind.i64.wrap (x2 + (1 : Int))) nV_3 edgesV_3 < m x2 nV_2 edgesV_2))
    (R nV_2 edgesV_2)

theorem ok125 {nV edgesV fvV fvV2} {R : Int → List (Int × Int) → Prop} (T : T125 nV edgesV fvV fvV2 R) : Ok125 nV edgesV fvV fvV2 R := by
  intro h dB edgesVA edgesVL edgesVC fvB fvO fvB2 fvO2 H
  have Y : Sy h (owns [Ck.ob dB 229 [.int .i64 nV, .slice edgesVA edgesVL edgesVC], Ck.sl eP 35 edgesVA edgesVL edgesVC edgesV]) h _ := Sy.startM H rfl
  obtain rfl := Y.lenS 1 rfl
  apply calls125
  unfold S125
  unfold T125 at T
  refine ⟨fvB, fvO, rfl, ?_⟩
  refine ⟨_, Y.cellW 2 rfl 0 rfl, ?_⟩
  obtain ⟨Iv, m, T0, T1⟩ := T
  obtain ⟨B, hB, YB⟩ := Y.cut [0, 1] [2, 3] rfl
  obtain ⟨F, hF⟩ := Y.fnO (k := 0) [0, 1] rfl
  obtain ⟨JJ, hJJ⟩ : ∃ JJ : Nat → List Value → Heap → Prop, JJ = (fun k lz h' => ∃ (x2 : Int) (nV_2 : Int) (cA : Option Addr) (cL cC : Nat) (edgesV_2 : List (Int × Int)), lz = [.int .i64 x2] ∧ Sy h (owns [Ck.ob dB 229 [.int .i64 nV, .slice edgesVA edgesV.length edgesVC], Ck.sl eP 35 edgesVA edgesV.length edgesVC edgesV]) h' ([F [.int .i64 nV_2, .slice cA cL cC], Ck.sl eP 35 cA cL cC edgesV_2] ++ B) ∧ Iv x2 nV_2 edgesV_2 ∧ m x2 nV_2 edgesV_2 = k) := ⟨_, rfl⟩
  refine ⟨fun lz h' => ∃ k, JJ k lz h', Lm JJ, ?_, ?_⟩
  · subst hJJ hB hF
    exact ⟨_, _, _, _, _, _, _, rfl, YB, T0, rfl⟩
  · clear YB T0 Y
    intro x2 hv hI
    obtain ⟨k, hI, hm⟩ := loopIn hI
    subst hJJ hB hF
    obtain ⟨x2, nV_2, cA, cL, cC, edgesV_2, e, Y, T, rfl⟩ := hI
    cases e
    obtain rfl := Y.lenS 1 rfl
    replace T := T1 x2 nV_2 edgesV_2 T
    have Y : Sy _ _ _ [_, _, _, _] := Y
    refine cnd_imp T (fun T => ?_) (fun T => ?_)
    · refine ⟨fvB2, fvO2, rfl, ?_⟩
      refine ⟨_, Y.cellW 3 rfl 0 rfl, ?_⟩
      obtain ⟨Iv2, m2, T0, T1⟩ := T
      obtain ⟨B_2, hB_2, YB⟩ := Y.cut [0, 1] [2, 3] rfl
      obtain ⟨F_2, hF_2⟩ := Y.fnO (k := 0) [0, 1] rfl
      obtain ⟨JJ_2, hJJ_2⟩ : ∃ JJ_2 : Nat → List Value → Heap → Prop, JJ_2 = (fun k_2 lz h' => ∃ (x4 : Int) (nV_3 : Int) (cA_2 : Option Addr) (cL_2 cC_2 : Nat) (edgesV_3 : List (Int × Int)), lz = [.int .i64 x4] ∧ Sy h (owns [Ck.ob dB 229 [.int .i64 nV, .slice edgesVA edgesV.length edgesVC], Ck.sl eP 35 edgesVA edgesV.length edgesVC edgesV]) h' ([F_2 [.int .i64 nV_3, .slice cA_2 cL_2 cC_2], Ck.sl eP 35 cA_2 cL_2 cC_2 edgesV_3] ++ B_2) ∧ Iv2 x4 nV_3 edgesV_3 ∧ m2 x4 nV_3 edgesV_3 = k_2) := ⟨_, rfl⟩
      refine ⟨fun lz h' => ∃ k_2, JJ_2 k_2 lz h', Lm JJ_2, ?_, ?_⟩
      · subst hJJ_2 hB_2 hF_2
        exact ⟨_, _, _, _, _, _, _, rfl, YB, T0, rfl⟩
      · clear YB T0 Y
        intro x4 hv2 hI
        obtain ⟨k_2, hI, hm_2⟩ := loopIn hI
        subst hJJ_2 hB_2 hF_2
        obtain ⟨x4, nV_3, cA_2, cL_2, cC_2, edgesV_3, e, Y, T, rfl⟩ := hI
        cases e
        obtain rfl := Y.lenS 1 rfl
        replace T := T1 x4 nV_3 edgesV_3 T
        have Y : Sy _ _ _ [_, _, _, _] := Y
        refine cnd_imp T (fun T => ?_) (fun T => ?_)
        · refine ⟨fvB, fvO, rfl, ?_⟩
          refine ⟨_, Y.cellW 2 rfl 0 rfl, ?_⟩
          refine callX_sy (T _ _ _ _ _ (Y.pick [0, 1] rfl).hp) (fun _ _ ⟨_, _, _, _, _, p, _⟩ => p.fr) alln ?_
          rintro v hv3 ⟨edgesVA2_2, edgesVL2_2, edgesVC2_2, edgesV1_2, nV2_2, PP, rfl, T⟩
          have Y : Sy _ _ hv3 [_, _, _, _] := Y.call2 [0, 1, 2, 3] rfl (A := [_, _]) rfl rfl PP ⟨rfl, ⟨rfl, trivial⟩⟩
          clear PP
          obtain rfl := Y.lenS 1 rfl
          refine ⟨rfl, ?_⟩
          exact loopBack hm_2 ⟨_, _, _, _, _, _, rfl, Y.pick [0, 1, 2, 3] rfl, T.1, rfl⟩ T.2
        · exact loopBack hm ⟨_, _, _, _, _, _, rfl, Y.pick [0, 1, 2, 3] rfl, T.1, rfl⟩ T.2
    · exact ⟨_, _, _, _, _, Y.pick [0, 1] rfl, rfl, T⟩

/-- tracery/maker.Grid$1 -/
def S126 (dP : Option Addr) (fv : Option Addr) (fv2 : Option Addr) (h : Heap) (R : Value → Heap → Prop) : Prop :=
  ∃ b o, fv = some ⟨b, o, none⟩ ∧ ∃ x : Int, hcell h b o = some (.int .i64 x) ∧ ∃ (Iv : List Value → Heap → Prop) (m : List Value → Heap → Nat), Iv [.int .i64 0] h ∧ -- loop 0: ['8']
  ∀ x2 : Int, ∀ hv, Iv [.int .i64 x2] hv →
  cnd (decide (x2 < x))
    (∃ b2 o2, fv2 = some ⟨b2, o2, none⟩ ∧ ∃ x3 : Int, hcell hv b2 o2 = some (.int .i64 x3) ∧ ∃ (Iv2 : List Value → Heap → Prop) (m2 : List Value → Heap → Nat), Iv2 [.int .i64 0] hv ∧ -- loop 2: ['12']
    ∀ x4 : Int, ∀ hv2, Iv2 [.int .i64 x4] hv2 →
    cnd (decide (x4 < x3))
      (∃ b3 o3, fv2 = some ⟨b3, o3, none⟩ ∧ ∃ x5 : Int, hcell hv2 b3 o3 = some (.int .i64 x5) ∧ ∃ b4 o4, fv2 = some ⟨b4, o4, none⟩ ∧ ∃ x6 : Int, hcell hv2 b4 o4 = some (.int .i64 x6) ∧ ∃ Jv : List Value → Heap → Prop, -- join 23 []
      ( cnd (decide ((IntKind.i64.wrap (x4 + (1 : Int))) < x6))
         (callX Try.prog 117 #[.pointer dP, .int .i64 (IntKind.i64.wrap ((IntKind.i64.wrap (x2 * x5)) + x4)), .int .i64 (IntKind.i64.wrap ((IntKind.i64.wrap ((IntKind.i64.wrap (x2 * x5)) + x4)) + (1 : Int)))] hv2 [] fun v hv3 =>
         v = .tuple #[] ∧
         Jv [] hv3)
         (Jv [] hv2)) ∧
      ∀ hv4, Jv [] hv4 →
      ∃ b5 o5, fv = some ⟨b5, o5, none⟩ ∧ ∃ x7 : Int, hcell hv4 b5 o5 = some (.int .i64 x7) ∧ ∃ Jv2 : List Value → Heap → Prop, -- join 32 []
      ( cnd (decide ((IntKind.i64.wrap (x2 + (1 : Int))) < x7))
         (∃ b6 o6, fv2 = some ⟨b6, o6, none⟩ ∧ ∃ x8 : Int, hcell hv4 b6 o6 = some (.int .i64 x8) ∧ callX Try.prog 117 #[.pointer dP, .int .i64 (IntKind.i64.wrap ((IntKind.i64.wrap (x2 * x5)) + x4)), .int .i64 (IntKind.i64.wrap ((IntKind.i64.wrap ((IntKind.i64.wrap (x2 * x5)) + x4)) + x8))] hv4 [] fun v2 hv5 =>
         v2 = .tuple #[] ∧
         Jv2 [] hv5)
         (Jv2 [] hv4)) ∧
      ∀ hv6, Jv2 [] hv6 →
      Iv2 [.int .i64 (IntKind.i64.wrap (x4 + (1 : Int)))] hv6 ∧ m2 [.int .i64 (IntKind.i64.wrap (x4 + (1 : Int)))] hv6 < m2 [.int .i64 x4] hv2)
      (Iv [.int .i64 (IntKind.i64.wrap (x2 + (1 : Int)))] hv2 ∧ m [.int .i64 (IntKind.i64.wrap (x2 + (1 : Int)))] hv2 < m [.int .i64 x2] hv))
    (R (.tuple #[]) hv)

theorem calls126 {h : Heap} {R : Value → Heap → Prop} (dP : Option Addr) (fv : Option Addr) (fv2 : Option Addr) (H : S126 dP fv fv2 h R) : CallsH Try.prog 126 #[.pointer dP, .pointer fv, .pointer fv2] h R := by
  have e : S126 dP fv fv2 h R = FX (envX [] 41) { loops := [(0, ⟨[0, 1, 2, 7], [8], [], []⟩), (2, ⟨[0, 1, 2, 4, 7, 8, 11], [12], [], []⟩)], joins := [(23, ⟨[0, 1, 2, 4, 6, 7, 8, 11, 12], [], [], []⟩), (32, ⟨[0, 1, 2, 4, 7, 8, 11, 12], [], [], []⟩)], blocks := [], draws := [] } Try.f126 (Try.f126.body.getD .skip) [.pointer dP, .pointer fv, .pointer fv2] h R := by kernel_rfl
  exact calls_of_FX (envX_ok _ _) Try.func126 (by kernel_rfl) (by kernel_rfl) (by kernel_rfl) (e ▸ H)

/-- tracery/maker.Grid$1 -/
def Ok126 (nV : Int) (edgesV : List (Int × Int)) (fvV : Int) (fvV2 : Int) (R : Int → List (Int × Int) → Prop) : Prop :=
  ∀ (h : Heap) (dB : Nat) (edgesVA : Option Addr) (edgesVL edgesVC : Nat) (fvB fvO : Nat) (fvB2 fvO2 : Nat), Hp h [Ck.ob dB 229 [.int .i64 nV, .slice edgesVA edgesVL edgesVC], Ck.sl eP 35 edgesVA edgesVL edgesVC edgesV, Ck.vob fvB fvO [.int .i64 fvV], Ck.vob fvB2 fvO2 [.int .i64 fvV2]] → CallsH Try.prog 126 #[.pointer (some ⟨dB, 0, none⟩), .pointer (some ⟨fvB, fvO, none⟩), .pointer (some ⟨fvB2, fvO2, none⟩)] h fun v h' => ∃ (edgesVA2 : Option Addr) (edgesVL2 edgesVC2 : Nat) (edgesV1 : List (Int × Int)) (nV2 : Int), Sy h (owns [Ck.ob dB 229 [.int .i64 nV, .slice edgesVA edgesVL edgesVC], Ck.sl eP 35 edgesVA edgesVL edgesVC edgesV]) h' [Ck.ob dB 229 [.int .i64 nV2, .slice edgesVA2 edgesVL2 edgesVC2], Ck.sl eP 35 edgesVA2 edgesVL2 edgesVC2 edgesV1] ∧ v = .tuple #[] ∧ R nV2 edgesV1
theorem Ok126.mono {nV edgesV fvV fvV2} {R R' : Int → List (Int × Int) → Prop} (H : Ok126 nV edgesV fvV fvV2 R) (kz : ∀ nV2 edgesV1, R nV2 edgesV1 → R' nV2 edgesV1) : Ok126 nV edgesV fvV fvV2 R' :=
  fun h dB edgesVA edgesVL edgesVC fvB fvO fvB2 fvO2 hp => (H h dB edgesVA edgesVL edgesVC fvB fvO fvB2 fvO2 hp).mono fun _ _ ⟨edgesVA2, edgesVL2, edgesVC2, edgesV1, nV2, P, e, q⟩ => ⟨edgesVA2, edgesVL2, edgesVC2, edgesV1, nV2, P, e, kz _ _ q⟩

def T126 (nV : Int) (edgesV : List (Int × Int)) (fvV : Int) (fvV2 : Int) (R : Int → List (Int × Int) → Prop) : Prop :=
  ∃ (Iv : Int → Int → List (Int × Int) → Prop) (m : Int → Int → List (Int × Int) → Nat), Iv 0 nV edgesV ∧
  ∀ x2 : Int, ∀ nV_2 : Int, ∀ edgesV_2 : List (Int × Int), Iv x2 nV_2 edgesV_2 →
  cnd (decide (x2 < fvV))
    (∃ (Iv2 : Int → Int → List (Int × Int) → Prop) (m2 : Int → Int → List (Int × Int) → Nat), Iv2 0 nV_2 edgesV_2 ∧
    ∀ x4 : Int, ∀ nV_3 : Int, ∀ edgesV_3 : List (Int × Int), Iv2 x4 nV_3 edgesV_3 →
    cnd (decide (x4 < fvV2))
      (∃ Jv : Int → List (Int × Int) → Prop,
      ( cnd (decide ((IntKind.i64.wrap (x4 + (1 : Int))) < fvV2))
         (Ok117 nV_3 edgesV_3 (IntKind.i64.wrap ((IntKind.i64.wrap (x2 * fvV2)) + x4)) (IntKind.i64.wrap ((IntKind.i64.wrap ((IntKind.i64.wrap (x2 * fvV2)) + x4)) + (1 : Int))) (fun nV2_2 edgesV1_2 =>
         Jv nV2_2 edgesV1_2))
         (Jv nV_3 edgesV_3)) ∧
      ∀ nV_4 : Int, ∀ edgesV_4 : List (Int × Int), Jv nV_4 edgesV_4 →
      ∃ Jv2 : Int → List (Int × Int) → Prop,
      ( cnd (decide ((IntKind.i64.wrap (x2 + (1 : Int))) < fvV))
         (Ok117 nV_4 edgesV_4 (IntKind.i64.wrap ((IntKind.i64.wrap (x2 * fvV2)) + x4)) (IntKind.i64.wrap ((IntKind.i64.wrap ((IntKind.i64.wrap (x2 * fvV2)) + x4)) + fvV2)) (fun nV2_3 edgesV1_3 =>
         Jv2 nV2_3 edgesV1_3))
         (Jv2 nV_4 edgesV_4)) ∧
      ∀ nV_5 : Int, ∀ edgesV_5 : List (Int × Int), Jv2 nV_5 edgesV_5 →
      Iv2 (IntKind.i64.wrap (x4 + (1 : Int))) nV_5 edgesV_5 ∧ m2 (IntKind.i64.wrap (x4 + (1 : Int))) nV_5 edgesV_5 < m2 x4 nV_3 edgesV_3)
      (Iv (IntKind.i64.wrap (x2 + (1 : Int))) nV_3 edgesV_3 ∧ m (IntKind.i64.wrap (x2 + (1 : Int))) nV_3 edgesV_3 < m x2 nV_2 edgesV_2))
    (R nV_2 edgesV_2)

theorem ok126 {nV edgesV fvV fvV2} {R : Int → List (Int × Int) → Prop} (T : T126 nV edgesV fvV fvV2 R) : Ok126 nV edgesV fvV fvV2 R := by
  intro h dB edgesVA edgesVL edgesVC fvB fvO fvB2 fvO2 H
  have Y : Sy h (owns [Ck.ob dB 229 [.int .i64 nV, .slice edgesVA edgesVL edgesVC], Ck.sl eP 35 edgesVA edgesVL edgesVC edgesV]) h _ := Sy.startM H rfl
  obtain rfl := Y.lenS 1 rfl
  apply calls126
  unfold S126
  unfold T126 at T
  refine ⟨fvB, fvO, rfl, ?_⟩
  refine ⟨_, Y.cellW 2 rfl 0 rfl, ?_⟩
  obtain ⟨Iv, m, T0, T1⟩ := T
  obtain ⟨B, hB, YB⟩ := Y.cut [0, 1] [2, 3] rfl
  obtain ⟨F, hF⟩ := Y.fnO (k := 0) [0, 1] rfl
  obtain ⟨JJ, hJJ⟩ : ∃ JJ : Nat → List Value → Heap → Prop, JJ = (fun k lz h' => ∃ (x2 : Int) (nV_2 : Int) (cA : Option Addr) (cL cC : Nat) (edgesV_2 : List (Int × Int)), lz = [.int .i64 x2] ∧ Sy h (owns [Ck.ob dB 229 [.int .i64 nV, .slice edgesVA edgesV.length edgesVC], Ck.sl eP 35 edgesVA edgesV.length edgesVC edgesV]) h' ([F [.int .i64 nV_2, .slice cA cL cC], Ck.sl eP 35 cA cL cC edgesV_2] ++ B) ∧ Iv x2 nV_2 edgesV_2 ∧ m x2 nV_2 edgesV_2 = k) := ⟨_, rfl⟩
  refine ⟨fun lz h' => ∃ k, JJ k lz h', Lm JJ, ?_, ?_⟩
  · subst hJJ hB hF
    exact ⟨_, _, _, _, _, _, _, rfl, YB, T0, rfl⟩
  · clear YB T0 Y
    intro x2 hv hI
    obtain ⟨k, hI, hm⟩ := loopIn hI
    subst hJJ hB hF
    obtain ⟨x2, nV_2, cA, cL, cC, edgesV_2, e, Y, T, rfl⟩ := hI
    cases e
    obtain rfl := Y.lenS 1 rfl
    replace T := T1 x2 nV_2 edgesV_2 T
    have Y : Sy _ _ _ [_, _, _, _] := Y
    refine cnd_imp T (fun T => ?_) (fun T => ?_)
    · refine ⟨fvB2, fvO2, rfl, ?_⟩
      refine ⟨_, Y.cellW 3 rfl 0 rfl, ?_⟩
      obtain ⟨Iv2, m2, T0, T1⟩ := T
      obtain ⟨B_2, hB_2, YB⟩ := Y.cut [0, 1] [2, 3] rfl
      obtain ⟨F_2, hF_2⟩ := Y.fnO (k := 0) [0, 1] rfl
      obtain ⟨JJ_2, hJJ_2⟩ : ∃ JJ_2 : Nat → List Value → Heap → Prop, JJ_2 = (fun k_2 lz h' => ∃ (x4 : Int) (nV_3 : Int) (cA_2 : Option Addr) (cL_2 cC_2 : Nat) (edgesV_3 : List (Int × Int)), lz = [.int .i64 x4] ∧ Sy h (owns [Ck.ob dB 229 [.int .i64 nV, .slice edgesVA edgesV.length edgesVC], Ck.sl eP 35 edgesVA edgesV.length edgesVC edgesV]) h' ([F_2 [.int .i64 nV_3, .slice cA_2 cL_2 cC_2], Ck.sl eP 35 cA_2 cL_2 cC_2 edgesV_3] ++ B_2) ∧ Iv2 x4 nV_3 edgesV_3 ∧ m2 x4 nV_3 edgesV_3 = k_2) := ⟨_, rfl⟩
      refine ⟨fun lz h' => ∃ k_2, JJ_2 k_2 lz h', Lm JJ_2, ?_, ?_⟩
      · subst hJJ_2 hB_2 hF_2
        exact ⟨_, _, _, _, _, _, _, rfl, YB, T0, rfl⟩
      · clear YB T0 Y
        intro x4 hv2 hI
        obtain ⟨k_2, hI, hm_2⟩ := loopIn hI
        subst hJJ_2 hB_2 hF_2
        obtain ⟨x4, nV_3, cA_2, cL_2, cC_2, edgesV_3, e, Y, T, rfl⟩ := hI
        cases e
        obtain rfl := Y.lenS 1 rfl
        replace T := T1 x4 nV_3 edgesV_3 T
        have Y : Sy _ _ _ [_, _, _, _] := Y
        refine cnd_imp T (fun T => ?_) (fun T => ?_)
        · refine ⟨fvB2, fvO2, rfl, ?_⟩
          refine ⟨_, Y.cellW 3 rfl 0 rfl, ?_⟩
          refine ⟨fvB2, fvO2, rfl, ?_⟩
          refine ⟨_, Y.cellW 3 rfl 0 rfl, ?_⟩
          obtain ⟨Jv, T0, T1⟩ := T
          obtain ⟨B_3, hB_3, _⟩ := Y.cut [] [2, 3] rfl
          obtain ⟨F_3, hF_3⟩ := Y.fnO (k := 0) [0, 1] rfl
          refine ⟨fun lz h' => ∃ (nV_4 : Int) (cA_3 : Option Addr) (cL_3 cC_3 : Nat) (edgesV_4 : List (Int × Int)), lz = [] ∧ Sy h (owns [Ck.ob dB 229 [.int .i64 nV, .slice edgesVA edgesV.length edgesVC], Ck.sl eP 35 edgesVA edgesV.length edgesVC edgesV]) h' ([F_3 [.int .i64 nV_4, .slice cA_3 cL_3 cC_3], Ck.sl eP 35 cA_3 cL_3 cC_3 edgesV_4] ++ B_3) ∧ Jv nV_4 edgesV_4, ?_, ?_⟩
          · subst hB_3 hF_3
            replace T := T0
            clear T0 T1
            refine cnd_imp T (fun T => ?_) (fun T => ?_)
            · refine callX_sy (T _ _ _ _ _ (Y.pick [0, 1] rfl).hp) (fun _ _ ⟨_, _, _, _, _, p, _⟩ => p.fr) alln ?_
              rintro v hv3 ⟨edgesVA2_2, edgesVL2_2, edgesVC2_2, edgesV1_2, nV2_2, PP, rfl, T⟩
              have Y : Sy _ _ hv3 [_, _, _, _] := Y.call2 [0, 1, 2, 3] rfl (A := [_, _]) rfl rfl PP ⟨rfl, ⟨rfl, trivial⟩⟩
              clear PP
              obtain rfl := Y.lenS 1 rfl
              refine ⟨rfl, ?_⟩
              exact ⟨_, _, _, _, _, rfl, Y.pick [0, 1, 2, 3] rfl, T⟩
            · exact ⟨_, _, _, _, _, rfl, Y.pick [0, 1, 2, 3] rfl, T⟩
          · subst hB_3 hF_3
            clear T0 Y
            rintro hv4 ⟨nV_4, cA_3, cL_3, cC_3, edgesV_4, e, Y, T⟩
            cases e
            obtain rfl := Y.lenS 1 rfl
            replace T := T1 nV_4 edgesV_4 T
            have Y : Sy _ _ _ [_, _, _, _] := Y
            refine ⟨fvB, fvO, rfl, ?_⟩
            refine ⟨_, Y.cellW 2 rfl 0 rfl, ?_⟩
            obtain ⟨Jv2, T0, T1⟩ := T
            obtain ⟨B_4, hB_4, _⟩ := Y.cut [] [2, 3] rfl
            obtain ⟨F_4, hF_4⟩ := Y.fnO (k := 0) [0, 1] rfl
            refine ⟨fun lz h' => ∃ (nV_5 : Int) (cA_4 : Option Addr) (cL_4 cC_4 : Nat) (edgesV_5 : List (Int × Int)), lz = [] ∧ Sy h (owns [Ck.ob dB 229 [.int .i64 nV, .slice edgesVA edgesV.length edgesVC], Ck.sl eP 35 edgesVA edgesV.length edgesVC edgesV]) h' ([F_4 [.int .i64 nV_5, .slice cA_4 cL_4 cC_4], Ck.sl eP 35 cA_4 cL_4 cC_4 edgesV_5] ++ B_4) ∧ Jv2 nV_5 edgesV_5, ?_, ?_⟩
            · subst hB_4 hF_4
              replace T := T0
              clear T0 T1
              refine cnd_imp T (fun T => ?_) (fun T => ?_)
              · refine ⟨fvB2, fvO2, rfl, ?_⟩
                refine ⟨_, Y.cellW 3 rfl 0 rfl, ?_⟩
                refine callX_sy (T _ _ _ _ _ (Y.pick [0, 1] rfl).hp) (fun _ _ ⟨_, _, _, _, _, p, _⟩ => p.fr) alln ?_
                rintro v2 hv5 ⟨edgesVA2_3, edgesVL2_3, edgesVC2_3, edgesV1_3, nV2_3, PP, rfl, T⟩
                have Y : Sy _ _ hv5 [_, _, _, _] := Y.call2 [0, 1, 2, 3] rfl (A := [_, _]) rfl rfl PP ⟨rfl, ⟨rfl, trivial⟩⟩
                clear PP
                obtain rfl := Y.lenS 1 rfl
                refine ⟨rfl, ?_⟩
                exact ⟨_, _, _, _, _, rfl, Y.pick [0, 1, 2, 3] rfl, T⟩
              · exact ⟨_, _, _, _, _, rfl, Y.pick [0, 1, 2, 3] rfl, T⟩
            · subst hB_4 hF_4
              clear T0 Y
              rintro hv6 ⟨nV_5, cA_4, cL_4, cC_4, edgesV_5, e, Y, T⟩
              cases e
              obtain rfl := Y.lenS 1 rfl
              replace T := T1 nV_5 edgesV_5 T
              have Y : Sy _ _ _ [_, _, _, _] := Y
              exact loopBack hm_2 ⟨_, _, _, _, _, _, rfl, Y.pick [0, 1, 2, 3] rfl, T.1, rfl⟩ T.2
        · exact loopBack hm ⟨_, _, _, _, _, _, rfl, Y.pick [0, 1, 2, 3] rfl, T.1, rfl⟩ T.2
    · exact ⟨_, _, _, _, _, Y.pick [0, 1] rfl, rfl, T⟩

/-- tracery/maker.Stack$1 -/
def S114 (dP : Option Addr) (fv : Option Addr) (fv2 : Option Addr) (h : Heap) (R : Value → Heap → Prop) : Prop :=
  callX Try.prog 115 #[.pointer dP, .int .i64 0, .int .i64 3] h [] fun v hv =>
  v = .tuple #[] ∧
  ∃ b o, fv = some ⟨b, o, none⟩ ∧ ∃ x : Int, hcell hv b o = some (.int .u64 x) ∧ let hv2 : Heap := hv.push (.cells #[.int .u64 x] 166)
  let hv3 : Heap := hv2.push (.cells #[.int .i64 0, .int .i64 1, .int .i64 2, .int .i64 0, .int .i64 2, .int .i64 1] 167)
  ∃ (Iv : List Value → Heap → Prop) (m : List Value → Heap → Nat), Iv [.slice (some (⟨hv2.size, 0, none⟩ : Addr)) 2 2, .int .i64 3] hv3 ∧ -- loop 0: ['l', 'v']
  ∀ (lA : Option Addr) (lL lC : Nat), ∀ v2 : Int, ∀ hv4, Iv [.slice lA lL lC, .int .i64 v2] hv4 →
  ∃ b2 o2, fv2 = some ⟨b2, o2, none⟩ ∧ ∃ x2 : Int, hcell hv4 b2 o2 = some (.int .i64 x2) ∧ cnd (decide (v2 < x2))
    (callX Try.prog 116 #[.pointer (some (⟨hv.size, 0, none⟩ : Addr)), .int .i64 ((lL : Nat) : Int)] hv4 [] fun v3 hv5 =>
    ∃ r : Int, v3 = .int .i64 r ∧
    ∃ b3 o3, lA = some ⟨b3, o3, none⟩ ∧ 0 ≤ r ∧ r < (lL : Nat) ∧ ∃ x3 : Int, hcell hv5 b3 (o3 + (Int.toNat r) * 3) = some (.int .i64 x3) ∧ ∃ x4 : Int, hcell hv5 b3 ((o3 + (Int.toNat r) * 3) + 1) = some (.int .i64 x4) ∧ ∃ x5 : Int, hcell hv5 b3 (((o3 + (Int.toNat r) * 3) + 1) + 1) = some (.int .i64 x5) ∧ let hv6 : Heap := hv5.push (.cells #[.int .i64 0, .int .i64 0, .int .i64 0] 167)
    let hv7 : Heap := hset (hset (hset hv6 hv5.size 0 (.int .i64 x3)) hv5.size (0 + 1) (.int .i64 x4)) hv5.size ((0 + 1) + 1) (.int .i64 x5)
    ∃ (Iv2 : List Value → Heap → Prop) (m2 : List Value → Heap → Nat), Iv2 [.int .i64 0] hv7 ∧ -- loop 2: ['33']
    ∀ x6 : Int, ∀ hv8, Iv2 [.int .i64 x6] hv8 →
    cnd (decide (x6 < (3 : Int)))
      (0 ≤ x6 ∧ x6 < ((3 : Nat) : Int) ∧ ∃ x7 : Int, (#[.int .i64 x3, .int .i64 x4, .int .i64 x5] : Array Value)[Int.toNat x6]? = some (.int .i64 x7) ∧ callX Try.prog 117 #[.pointer dP, .int .i64 v2, .int .i64 x7] hv8 [hv5.size] fun v4 hv9 =>
      v4 = .tuple #[] ∧
      Iv2 [.int .i64 (IntKind.i64.wrap (x6 + (1 : Int)))] hv9 ∧ m2 [.int .i64 (IntKind.i64.wrap (x6 + (1 : Int)))] hv9 < m2 [.int .i64 x6] hv8)
      (∃ b4 o4, lA = some ⟨b4, o4, none⟩ ∧ 0 ≤ r ∧ r < (lL : Nat) ∧ b4 ≠ hv5.size ∧ (∃ u, hcell hv8 b4 (o4 + (Int.toNat r) * 3) = some u) ∧ hfree hv8 b4 (o4 + (Int.toNat r) * 3) = true ∧ (∃ u, hcell hv8 b4 ((o4 + (Int.toNat r) * 3) + 1) = some u) ∧ hfree hv8 b4 ((o4 + (Int.toNat r) * 3) + 1) = true ∧ (∃ u, hcell hv8 b4 (((o4 + (Int.toNat r) * 3) + 1) + 1) = some u) ∧ hfree hv8 b4 (((o4 + (Int.toNat r) * 3) + 1) + 1) = true ∧ let hv10 : Heap := hset (hset (hset hv8 b4 (o4 + (Int.toNat r) * 3) (.int .i64 x3)) b4 ((o4 + (Int.toNat r) * 3) + 1) (.int .i64 x4)) b4 (((o4 + (Int.toNat r) * 3) + 1) + 1) (.int .i64 v2)
      let hv11 : Heap := hv10.push (.cells #[.int .i64 x4, .int .i64 x5, .int .i64 v2, .int .i64 x5, .int .i64 x3, .int .i64 v2] 167)
      ∃ old, Own hv11 167 3 lA lL lC old ∧ (∀ b ∈ ([hv10.size, hv5.size] : List Nat), b ∉ blkOf lA) ∧ (lL + 2) * 24 ≤ 140737488355328 ∧ (lL + 2) ≤ maxLen ∧
      ∀ sA sC hv12, Own hv12 167 3 sA (lL + 2) sC (old ++ [.int .i64 x4, .int .i64 x5, .int .i64 v2, .int .i64 x5, .int .i64 x3, .int .i64 v2]) → Fr (blkOf lA) hv11 hv12 → ((sA = lA ∧ sC = lC) ∨ ∃ g, sA = some ⟨g, 0, none⟩ ∧ hv11.size ≤ g) → (lC < (lL + 2) → Fr [] hv11 hv12) →
      Iv [.slice sA (lL + 2) sC, .int .i64 (IntKind.i64.wrap (v2 + (1 : Int)))] hv12 ∧ m [.slice sA (lL + 2) sC, .int .i64 (IntKind.i64.wrap (v2 + (1 : Int)))] hv12 < m [.slice lA lL lC, .int .i64 v2] hv4))
    (R (.tuple #[]) hv4)

theorem calls114 {h : Heap} {R : Value → Heap → Prop} (dP : Option Addr) (fv : Option Addr) (fv2 : Option Addr) (H : S114 dP fv fv2 h R) : CallsH Try.prog 114 #[.pointer dP, .pointer fv, .pointer fv2] h R := by
  have e : S114 dP fv fv2 h R = FX (envX [8, 63] 65) { loops := [(0, ⟨[0, 2, 4], [5, 6], [], []⟩), (2, ⟨[0, 2, 4, 5, 6, 7, 8, 32], [33], [8], []⟩)], joins := [], blocks := [], draws := [] } Try.f114 (Try.f114.body.getD .skip) [.pointer dP, .pointer fv, .pointer fv2] h R := by kernel_rfl
  exact calls_of_FX (envX_ok _ _) Try.func114 (by kernel_rfl) (by kernel_rfl) (by kernel_rfl) (e ▸ H)

/-- tracery/maker.Stack$1 -/
def Ok114 (nV : Int) (edgesV : List (Int × Int)) (fvV : Int) (fvV2 : Int) (R : Int → List (Int × Int) → Prop) : Prop :=
  ∀ (h : Heap) (dB : Nat) (edgesVA : Option Addr) (edgesVL edgesVC : Nat) (fvB fvO : Nat) (fvB2 fvO2 : Nat), Hp h [Ck.ob dB 229 [.int .i64 nV, .slice edgesVA edgesVL edgesVC], Ck.sl eP 35 edgesVA edgesVL edgesVC edgesV, Ck.vob fvB fvO [.int .u64 fvV], Ck.vob fvB2 fvO2 [.int .i64 fvV2]] → CallsH Try.prog 114 #[.pointer (some ⟨dB, 0, none⟩), .pointer (some ⟨fvB, fvO, none⟩), .pointer (some ⟨fvB2, fvO2, none⟩)] h fun v h' => ∃ (edgesVA2 : Option Addr) (edgesVL2 edgesVC2 : Nat) (edgesV1 : List (Int × Int)) (nV2 : Int), Sy h (owns [Ck.ob dB 229 [.int .i64 nV, .slice edgesVA edgesVL edgesVC], Ck.sl eP 35 edgesVA edgesVL edgesVC edgesV]) h' [Ck.ob dB 229 [.int .i64 nV2, .slice edgesVA2 edgesVL2 edgesVC2], Ck.sl eP 35 edgesVA2 edgesVL2 edgesVC2 edgesV1] ∧ v = .tuple #[] ∧ R nV2 edgesV1
theorem Ok114.mono {nV edgesV fvV fvV2} {R R' : Int → List (Int × Int) → Prop} (H : Ok114 nV edgesV fvV fvV2 R) (kz : ∀ nV2 edgesV1, R nV2 edgesV1 → R' nV2 edgesV1) : Ok114 nV edgesV fvV fvV2 R' :=
  fun h dB edgesVA edgesVL edgesVC fvB fvO fvB2 fvO2 hp => (H h dB edgesVA edgesVL edgesVC fvB fvO fvB2 fvO2 hp).mono fun _ _ ⟨edgesVA2, edgesVL2, edgesVC2, edgesV1, nV2, P, e, q⟩ => ⟨edgesVA2, edgesVL2, edgesVC2, edgesV1, nV2, P, e, kz _ _ q⟩

def T114 (nV : Int) (edgesV : List (Int × Int)) (fvV : Int) (fvV2 : Int) (R : Int → List (Int × Int) → Prop) : Prop :=
  Ok115 nV edgesV 0 3 (fun nV2_2 edgesV1_2 =>
  ∃ (Iv : List (Int × Int × Int) → Int → Int → List (Int × Int) → Int → Prop) (m : List (Int × Int × Int) → Int → Int → List (Int × Int) → Int → Nat), Iv ([(0, 1, 2), (0, 2, 1)] : List (Int × Int × Int)) 3 nV2_2 edgesV1_2 fvV ∧
  ∀ l : List (Int × Int × Int), ∀ v2 : Int, ∀ nV_2 : Int, ∀ edgesV_2 : List (Int × Int), ∀ y : Int, Iv l v2 nV_2 edgesV_2 y →
  cnd (decide (v2 < fvV2))
    (Ok116 y ((l.length : Nat) : Int) (fun sV2 r =>
    0 ≤ r ∧ r < ((l.length : Nat) : Int) ∧ ∀ l_2 : (Int × Int × Int), l[(Int.toNat r)]? = some l_2 → ∃ (Iv2 : Int → Int → List (Int × Int) → Prop) (m2 : Int → Int → List (Int × Int) → Nat), Iv2 0 nV_2 edgesV_2 ∧
    ∀ x6 : Int, ∀ nV_3 : Int, ∀ edgesV_3 : List (Int × Int), Iv2 x6 nV_3 edgesV_3 →
    cnd (decide (x6 < (3 : Int)))
      (0 ≤ x6 ∧ x6 < ((3 : Nat) : Int) ∧ ∃ x7 : Int, (#[.int .i64 l_2.1, .int .i64 l_2.2.1, .int .i64 l_2.2.2] : Array Value)[Int.toNat x6]? = some (.int .i64 x7) ∧ Ok117 nV_3 edgesV_3 v2 x7 (fun nV2_3 edgesV1_3 =>
      Iv2 (IntKind.i64.wrap (x6 + (1 : Int))) nV2_3 edgesV1_3 ∧ m2 (IntKind.i64.wrap (x6 + (1 : Int))) nV2_3 edgesV1_3 < m2 x6 nV_3 edgesV_3))
      ((l.length + 2) < 1000000000000 ∧ Iv ((l.set (Int.toNat r) (l_2.1, l_2.2.1, v2)) ++ [(l_2.2.1, l_2.2.2, v2), (l_2.2.2, l_2.1, v2)]) (IntKind.i64.wrap (v2 + (1 : Int))) nV_3 edgesV_3 sV2 ∧ m ((l.set (Int.toNat r) (l_2.1, l_2.2.1, v2)) ++ [(l_2.2.1, l_2.2.2, v2), (l_2.2.2, l_2.1, v2)]) (IntKind.i64.wrap (v2 + (1 : Int))) nV_3 edgesV_3 sV2 < m l v2 nV_2 edgesV_2 y)))
    (R nV_2 edgesV_2))

theorem ok114 {nV edgesV fvV fvV2} {R : Int → List (Int × Int) → Prop} (T : T114 nV edgesV fvV fvV2 R) : Ok114 nV edgesV fvV fvV2 R := by
  intro h dB edgesVA edgesVL edgesVC fvB fvO fvB2 fvO2 H
  have Y : Sy h (owns [Ck.ob dB 229 [.int .i64 nV, .slice edgesVA edgesVL edgesVC], Ck.sl eP 35 edgesVA edgesVL edgesVC edgesV]) h _ := Sy.startM H rfl
  obtain rfl := Y.lenS 1 rfl
  apply calls114
  unfold S114
  unfold T114 at T
  refine callX_sy (T _ _ _ _ _ (Y.pick [0, 1] rfl).hp) (fun _ _ ⟨_, _, _, _, _, p, _⟩ => p.fr) alln ?_
  rintro v hv ⟨edgesVA2_2, edgesVL2_2, edgesVC2_2, edgesV1_2, nV2_2, PP, rfl, T⟩
  have Y : Sy _ _ hv [_, _, _, _] := Y.call2 [0, 1, 2, 3] rfl (A := [_, _]) rfl rfl PP ⟨rfl, ⟨rfl, trivial⟩⟩
  clear PP
  obtain rfl := Y.lenS 1 rfl
  refine ⟨rfl, ?_⟩
  refine ⟨fvB, fvO, rfl, ?_⟩
  refine ⟨_, Y.cellW 2 rfl 0 rfl, ?_⟩
  intro hv2
  have Y : Sy _ _ hv2 [_, _, _, _, _] := Y.newO _
  clear_value hv2
  intro hv3
  have Y : Sy _ _ hv3 [_, _, _, _, _, _] := Y.litS (E := e3) (ty := 167) ([(0, 1, 2), (0, 2, 1)] : List (Int × Int × Int)) rfl (by simp [maxLen])
  clear_value hv3
  obtain ⟨Iv, m, T0, T1⟩ := T
  obtain ⟨B, hB, YB⟩ := Y.cut [5, 0, 1, 4] [2, 3] rfl
  obtain ⟨F, hF⟩ := Y.fnO (k := 0) [0, 1] rfl
  obtain ⟨F_2, hF_2⟩ := Y.fnO (k := 4) [0] rfl
  obtain ⟨JJ, hJJ⟩ : ∃ JJ : Nat → List Value → Heap → Prop, JJ = (fun k lz h' => ∃ (lA : Option Addr) (lL lC : Nat) (l : List (Int × Int × Int)) (v2 : Int) (nV_2 : Int) (cA : Option Addr) (cL cC : Nat) (edgesV_2 : List (Int × Int)) (y : Int), lz = [.slice lA lL lC, .int .i64 v2] ∧ Sy h (owns [Ck.ob dB 229 [.int .i64 nV, .slice edgesVA edgesV.length edgesVC], Ck.sl eP 35 edgesVA edgesV.length edgesVC edgesV]) h' ([Ck.sl e3 167 lA lL lC l, F [.int .i64 nV_2, .slice cA cL cC], Ck.sl eP 35 cA cL cC edgesV_2, F_2 [.int .u64 y]] ++ B) ∧ Iv l v2 nV_2 edgesV_2 y ∧ m l v2 nV_2 edgesV_2 y = k) := ⟨_, rfl⟩
  refine ⟨fun lz h' => ∃ k, JJ k lz h', Lm JJ, ?_, ?_⟩
  · subst hJJ hB hF hF_2
    exact ⟨_, _, _, _, _, _, _, _, _, _, _, _, rfl, YB, T0, rfl⟩
  · clear YB T0 Y
    intro lA lL lC v2 hv4 hI
    obtain ⟨k, hI, hm⟩ := loopIn hI
    subst hJJ hB hF hF_2
    obtain ⟨lA, lL, lC, l, v2, nV_2, cA, cL, cC, edgesV_2, y, e, Y, T, rfl⟩ := hI
    cases e
    obtain rfl := Y.lenS 0 rfl
    obtain rfl := Y.lenS 2 rfl
    replace T := T1 l v2 nV_2 edgesV_2 y T
    have Y : Sy _ _ _ [_, _, _, _, _, _] := Y
    refine ⟨fvB2, fvO2, rfl, ?_⟩
    refine ⟨_, Y.cellW 5 rfl 0 rfl, ?_⟩
    refine cnd_imp T (fun T => ?_) (fun T => ?_)
    · refine callX_sy (T _ _ (Y.pick [3] rfl).hp) (fun _ _ ⟨_, _, p, _⟩ => p.fr) alln ?_
      rintro v3 hv5 ⟨sV2, r, PP, rfl, T⟩
      have Y : Sy _ _ hv5 [_, _, _, _, _, _] := Y.call2 [3, 0, 1, 2, 4, 5] rfl (A := [_]) rfl rfl PP ⟨rfl, trivial⟩
      clear PP
      refine ⟨r, rfl, ?_⟩
      obtain ⟨q, q_2, T⟩ := T
      obtain ⟨b_2, hb, ho, l_2, hx⟩ := Y.atS 1 rfl q q_2
      refine ⟨b_2, 0, hb, q, q_2, ?_⟩
      replace T := T l_2 hx
      refine ⟨_, Y.cellS 1 rfl hb (t := 0) hx rfl, ?_⟩
      refine ⟨_, Y.cellS 1 rfl hb (t := 1) hx rfl, ?_⟩
      refine ⟨_, Y.cellS 1 rfl hb (t := 2) hx rfl, ?_⟩
      intro hv6
      have Y : Sy _ _ hv6 [_, _, _, _, _, _, _] := Y.junk _
      clear_value hv6
      intro hv7
      have Y : Sy _ _ hv7 [_, _, _, _, _, _, _] := (((Y.stJ 6 rfl _ _).stJ 6 rfl _ _).stJ 6 rfl _ _)
      clear_value hv7
      obtain ⟨Iv2, m2, T0, T1⟩ := T
      obtain ⟨B_2, hB_2, YB⟩ := Y.cut [2, 3] [0, 1, 4, 5, 6] rfl
      obtain ⟨F_3, hF_3⟩ := Y.fnO (k := 2) [0, 1] rfl
      obtain ⟨JJ_2, hJJ_2⟩ : ∃ JJ_2 : Nat → List Value → Heap → Prop, JJ_2 = (fun k_2 lz h' => ∃ (x6 : Int) (nV_3 : Int) (cA_2 : Option Addr) (cL_2 cC_2 : Nat) (edgesV_3 : List (Int × Int)), lz = [.int .i64 x6] ∧ Sy h (owns [Ck.ob dB 229 [.int .i64 nV, .slice edgesVA edgesV.length edgesVC], Ck.sl eP 35 edgesVA edgesV.length edgesVC edgesV]) h' ([F_3 [.int .i64 nV_3, .slice cA_2 cL_2 cC_2], Ck.sl eP 35 cA_2 cL_2 cC_2 edgesV_3] ++ B_2) ∧ Iv2 x6 nV_3 edgesV_3 ∧ m2 x6 nV_3 edgesV_3 = k_2) := ⟨_, rfl⟩
      refine ⟨fun lz h' => ∃ k_2, JJ_2 k_2 lz h', Lm JJ_2, ?_, ?_⟩
      · subst hJJ_2 hB_2 hF_3
        exact ⟨_, _, _, _, _, _, _, rfl, YB, T0, rfl⟩
      · clear YB T0 Y
        intro x6 hv8 hI
        obtain ⟨k_2, hI, hm_2⟩ := loopIn hI
        subst hJJ_2 hB_2 hF_3
        obtain ⟨x6, nV_3, cA_2, cL_2, cC_2, edgesV_3, e, Y, T, rfl⟩ := hI
        cases e
        obtain rfl := Y.lenS 1 rfl
        replace T := T1 x6 nV_3 edgesV_3 T
        have Y : Sy _ _ _ [_, _, _, _, _, _, _] := Y
        refine cnd_imp T (fun T => ?_) (fun T => ?_)
        · obtain ⟨q_3, q_4, x7, q_5, T⟩ := T
          refine ⟨q_3, q_4, x7, q_5, ?_⟩
          refine callX_sy (T _ _ _ _ _ (Y.pick [0, 1] rfl).hp) (fun _ _ ⟨_, _, _, _, _, p, _⟩ => p.fr) (allc (Y.nO 6 [0, 1] rfl rfl) alln) ?_
          rintro v4 hv9 ⟨edgesVA2_3, edgesVL2_3, edgesVC2_3, edgesV1_3, nV2_3, PP, rfl, T⟩
          have Y : Sy _ _ hv9 [_, _, _, _, _, _, _] := Y.call2 [0, 1, 2, 3, 4, 5, 6] rfl (A := [_, _]) rfl rfl PP ⟨rfl, ⟨rfl, trivial⟩⟩
          clear PP
          obtain rfl := Y.lenS 1 rfl
          refine ⟨rfl, ?_⟩
          exact loopBack hm_2 ⟨_, _, _, _, _, _, rfl, Y.pick [0, 1, 2, 3, 4, 5, 6] rfl, T.1, rfl⟩ T.2
        · refine ⟨b_2, 0, hb, q, q_2, ?_⟩
          refine ⟨(Y.neJ 3 6 rfl rfl rfl ho), Y.cellEx 3 rfl hb (t := 0) (by omega) (by decide), Y.freeS 3 rfl hb _, Y.cellEx 3 rfl hb (t := 1) (by omega) (by decide), Y.freeS 3 rfl hb _, Y.cellEx 3 rfl hb (t := 2) (by omega) (by decide), Y.freeS 3 rfl hb _, ?_⟩
          intro hv10
          have Y : Sy _ _ hv10 [_, _, _, _, _, _, _] := Y.st3 3 rfl hb (l_2.1, l_2.2.1, v2) hx rfl (fun y => ⟨(l_2.1, y.2.1, y.2.2), rfl⟩) (fun y => ⟨(y.1, l_2.2.1, y.2.2), rfl⟩) rfl
          clear_value hv10
          intro hv11
          have Y : Sy _ _ hv11 [_, _, _, _, _, _, _, _] := Y.junk _
          clear_value hv11
          obtain ⟨q_6, T⟩ := T
          refine ⟨_, Y.ownS 3 rfl, (allc (Y.nJ 3 7 rfl rfl rfl) (allc (Y.nJ 3 6 rfl rfl rfl) alln)), by first | exact appB q_6 (by decide) | omega, by first | exact appM q_6 | (simp [maxLen]; omega), ?_⟩
          intro sA sC hv12 ow fA gA gB
          have Y : Sy _ _ hv12 [_, _, _, _, _, _, _, _] := Y.appS 3 rfl ([(l_2.2.1, l_2.2.2, v2), (l_2.2.2, l_2.1, v2)] : List (Int × Int × Int)) ow fA gA rfl rfl
          exact loopBack hm ⟨_, _, _, _, _, _, _, _, _, _, _, rfl, Y.pick [3, 0, 1, 2, 4, 5] rfl, T.1, rfl⟩ T.2
    · exact ⟨_, _, _, _, _, Y.pick [1, 2] rfl, rfl, T⟩

/-- tracery/maker.Path$1 -/
def S200 (dP : Option Addr) (fv : Option Addr) (h : Heap) (R : Value → Heap → Prop) : Prop :=
  ∃ b o, fv = some ⟨b, o, none⟩ ∧ ∃ x : Int, hcell h b o = some (.int .i64 x) ∧ ∃ (Iv : List Value → Heap → Prop) (m : List Value → Heap → Nat), Iv [.int .i64 0] h ∧ -- loop 0: ['6']
  ∀ x2 : Int, ∀ hv, Iv [.int .i64 x2] hv →
  cnd (decide (x2 < (IntKind.i64.wrap (x - (1 : Int)))))
    (callX Try.prog 117 #[.pointer dP, .int .i64 x2, .int .i64 (IntKind.i64.wrap (x2 + (1 : Int)))] hv [] fun v hv2 =>
    v = .tuple #[] ∧
    Iv [.int .i64 (IntKind.i64.wrap (x2 + (1 : Int)))] hv2 ∧ m [.int .i64 (IntKind.i64.wrap (x2 + (1 : Int)))] hv2 < m [.int .i64 x2] hv)
    (R (.tuple #[]) hv)

theorem calls200 {h : Heap} {R : Value → Heap → Prop} (dP : Option Addr) (fv : Option Addr) (H : S200 dP fv h R) : CallsH Try.prog 200 #[.pointer dP, .pointer fv] h R := by
  have e : S200 dP fv h R = FX (envX [] 15) { loops := [(0, ⟨[0, 5], [6], [], []⟩)], joins := [], blocks := [], draws := [] } Try.f200 (Try.f200.body.getD .skip) [.pointer dP, .pointer fv] h R := by kernel_rfl
  exact calls_of_FX (envX_ok _ _) Try.func200 (by kernel_rfl) (by kernel_rfl) (by kernel_rfl) (e ▸ H)

/-- tracery/maker.Path$1 -/
def Ok200 (nV : Int) (edgesV : List (Int × Int)) (fvV : Int) (R : Int → List (Int × Int) → Prop) : Prop :=
  ∀ (h : Heap) (dB : Nat) (edgesVA : Option Addr) (edgesVL edgesVC : Nat) (fvB fvO : Nat), Hp h [Ck.ob dB 229 [.int .i64 nV, .slice edgesVA edgesVL edgesVC], Ck.sl eP 35 edgesVA edgesVL edgesVC edgesV, Ck.vob fvB fvO [.int .i64 fvV]] → CallsH Try.prog 200 #[.pointer (some ⟨dB, 0, none⟩), .pointer (some ⟨fvB, fvO, none⟩)] h fun v h' => ∃ (edgesVA2 : Option Addr) (edgesVL2 edgesVC2 : Nat) (edgesV1 : List (Int × Int)) (nV2 : Int), Sy h (owns [Ck.ob dB 229 [.int .i64 nV, .slice edgesVA edgesVL edgesVC], Ck.sl eP 35 edgesVA edgesVL edgesVC edgesV]) h' [Ck.ob dB 229 [.int .i64 nV2, .slice edgesVA2 edgesVL2 edgesVC2], Ck.sl eP 35 edgesVA2 edgesVL2 edgesVC2 edgesV1] ∧ v = .tuple #[] ∧ R nV2 edgesV1
theorem Ok200.mono {nV edgesV fvV} {R R' : Int → List (Int × Int) → Prop} (H : Ok200 nV edgesV fvV R) (kz : ∀ nV2 edgesV1, R nV2 edgesV1 → R' nV2 edgesV1) : Ok200 nV edgesV fvV R' :=
  fun h dB edgesVA edgesVL edgesVC fvB fvO hp => (H h dB edgesVA edgesVL edgesVC fvB fvO hp).mono fun _ _ ⟨edgesVA2, edgesVL2, edgesVC2, edgesV1, nV2, P, e, q⟩ => ⟨edgesVA2, edgesVL2, edgesVC2, edgesV1, nV2, P, e, kz _ _ q⟩

def T200 (nV : Int) (edgesV : List (Int × Int)) (fvV : Int) (R : Int → List (Int × Int) → Prop) : Prop :=
  ∃ (Iv : Int → Int → List (Int × Int) → Prop) (m : Int → Int → List (Int × Int) → Nat), Iv 0 nV edgesV ∧
  ∀ x2 : Int, ∀ nV_2 : Int, ∀ edgesV_2 : List (Int × Int), Iv x2 nV_2 edgesV_2 →
  cnd (decide (x2 < (IntKind.i64.wrap (fvV - (1 : Int)))))
    (Ok117 nV_2 edgesV_2 x2 (IntKind.i64.wrap (x2 + (1 : Int))) (fun nV2_2 edgesV1_2 =>
    Iv (IntKind.i64.wrap (x2 + (1 : Int))) nV2_2 edgesV1_2 ∧ m (IntKind.i64.wrap (x2 + (1 : Int))) nV2_2 edgesV1_2 < m x2 nV_2 edgesV_2))
    (R nV_2 edgesV_2)

theorem ok200 {nV edgesV fvV} {R : Int → List (Int × Int) → Prop} (T : T200 nV edgesV fvV R) : Ok200 nV edgesV fvV R := by
  intro h dB edgesVA edgesVL edgesVC fvB fvO H
  have Y : Sy h (owns [Ck.ob dB 229 [.int .i64 nV, .slice edgesVA edgesVL edgesVC], Ck.sl eP 35 edgesVA edgesVL edgesVC edgesV]) h _ := Sy.startM H rfl
  obtain rfl := Y.lenS 1 rfl
  apply calls200
  unfold S200
  unfold T200 at T
  refine ⟨fvB, fvO, rfl, ?_⟩
  refine ⟨_, Y.cellW 2 rfl 0 rfl, ?_⟩
  obtain ⟨Iv, m, T0, T1⟩ := T
  obtain ⟨B, hB, YB⟩ := Y.cut [0, 1] [2] rfl
  obtain ⟨F, hF⟩ := Y.fnO (k := 0) [0, 1] rfl
  obtain ⟨JJ, hJJ⟩ : ∃ JJ : Nat → List Value → Heap → Prop, JJ = (fun k lz h' => ∃ (x2 : Int) (nV_2 : Int) (cA : Option Addr) (cL cC : Nat) (edgesV_2 : List (Int × Int)), lz = [.int .i64 x2] ∧ Sy h (owns [Ck.ob dB 229 [.int .i64 nV, .slice edgesVA edgesV.length edgesVC], Ck.sl eP 35 edgesVA edgesV.length edgesVC edgesV]) h' ([F [.int .i64 nV_2, .slice cA cL cC], Ck.sl eP 35 cA cL cC edgesV_2] ++ B) ∧ Iv x2 nV_2 edgesV_2 ∧ m x2 nV_2 edgesV_2 = k) := ⟨_, rfl⟩
  refine ⟨fun lz h' => ∃ k, JJ k lz h', Lm JJ, ?_, ?_⟩
  · subst hJJ hB hF
    exact ⟨_, _, _, _, _, _, _, rfl, YB, T0, rfl⟩
  · clear YB T0 Y
    intro x2 hv hI
    obtain ⟨k, hI, hm⟩ := loopIn hI
    subst hJJ hB hF
    obtain ⟨x2, nV_2, cA, cL, cC, edgesV_2, e, Y, T, rfl⟩ := hI
    cases e
    obtain rfl := Y.lenS 1 rfl
    replace T := T1 x2 nV_2 edgesV_2 T
    have Y : Sy _ _ _ [_, _, _] := Y
    refine cnd_imp T (fun T => ?_) (fun T => ?_)
    · refine callX_sy (T _ _ _ _ _ (Y.pick [0, 1] rfl).hp) (fun _ _ ⟨_, _, _, _, _, p, _⟩ => p.fr) alln ?_
      rintro v hv2 ⟨edgesVA2_2, edgesVL2_2, edgesVC2_2, edgesV1_2, nV2_2, PP, rfl, T⟩
      have Y : Sy _ _ hv2 [_, _, _] := Y.call2 [0, 1, 2] rfl (A := [_, _]) rfl rfl PP ⟨rfl, ⟨rfl, trivial⟩⟩
      clear PP
      obtain rfl := Y.lenS 1 rfl
      refine ⟨rfl, ?_⟩
      exact loopBack hm ⟨_, _, _, _, _, _, rfl, Y.pick [0, 1, 2] rfl, T.1, rfl⟩ T.2
    · exact ⟨_, _, _, _, _, Y.pick [0, 1] rfl, rfl, T⟩

/-- tracery/maker.Bond$1 -/
def S201 (dP : Option Addr) (fv : Option Addr) (h : Heap) (R : Value → Heap → Prop) : Prop :=
  ∃ b o, fv = some ⟨b, o, none⟩ ∧ ∃ x : Int, hcell h b o = some (.int .i64 x) ∧ ∃ (Iv : List Value → Heap → Prop) (m : List Value → Heap → Nat), Iv [.int .i64 0] h ∧ -- loop 0: ['4']
  ∀ x2 : Int, ∀ hv, Iv [.int .i64 x2] hv →
  cnd (decide (x2 < x))
    (callX Try.prog 117 #[.pointer dP, .int .i64 0, .int .i64 1] hv [] fun v hv2 =>
    v = .tuple #[] ∧
    Iv [.int .i64 (IntKind.i64.wrap (x2 + (1 : Int)))] hv2 ∧ m [.int .i64 (IntKind.i64.wrap (x2 + (1 : Int)))] hv2 < m [.int .i64 x2] hv)
    (R (.tuple #[]) hv)

theorem calls201 {h : Heap} {R : Value → Heap → Prop} (dP : Option Addr) (fv : Option Addr) (H : S201 dP fv h R) : CallsH Try.prog 201 #[.pointer dP, .pointer fv] h R := by
  have e : S201 dP fv h R = FX (envX [] 9) { loops := [(0, ⟨[0, 3], [4], [], []⟩)], joins := [], blocks := [], draws := [] } Try.f201 (Try.f201.body.getD .skip) [.pointer dP, .pointer fv] h R := by kernel_rfl
  exact calls_of_FX (envX_ok _ _) Try.func201 (by kernel_rfl) (by kernel_rfl) (by kernel_rfl) (e ▸ H)

/-- tracery/maker.Bond$1 -/
def Ok201 (nV : Int) (edgesV : List (Int × Int)) (fvV : Int) (R : Int → List (Int × Int) → Prop) : Prop :=
  ∀ (h : Heap) (dB : Nat) (edgesVA : Option Addr) (edgesVL edgesVC : Nat) (fvB fvO : Nat), Hp h [Ck.ob dB 229 [.int .i64 nV, .slice edgesVA edgesVL edgesVC], Ck.sl eP 35 edgesVA edgesVL edgesVC edgesV, Ck.vob fvB fvO [.int .i64 fvV]] → CallsH Try.prog 201 #[.pointer (some ⟨dB, 0, none⟩), .pointer (some ⟨fvB, fvO, none⟩)] h fun v h' => ∃ (edgesVA2 : Option Addr) (edgesVL2 edgesVC2 : Nat) (edgesV1 : List (Int × Int)) (nV2 : Int), Sy h (owns [Ck.ob dB 229 [.int .i64 nV, .slice edgesVA edgesVL edgesVC], Ck.sl eP 35 edgesVA edgesVL edgesVC edgesV]) h' [Ck.ob dB 229 [.int .i64 nV2, .slice edgesVA2 edgesVL2 edgesVC2], Ck.sl eP 35 edgesVA2 edgesVL2 edgesVC2 edgesV1] ∧ v = .tuple #[] ∧ R nV2 edgesV1
theorem Ok201.mono {nV edgesV fvV} {R R' : Int → List (Int × Int) → Prop} (H : Ok201 nV edgesV fvV R) (kz : ∀ nV2 edgesV1, R nV2 edgesV1 → R' nV2 edgesV1) : Ok201 nV edgesV fvV R' :=
  fun h dB edgesVA edgesVL edgesVC fvB fvO hp => (H h dB edgesVA edgesVL edgesVC fvB fvO hp).mono fun _ _ ⟨edgesVA2, edgesVL2, edgesVC2, edgesV1, nV2, P, e, q⟩ => ⟨edgesVA2, edgesVL2, edgesVC2, edgesV1, nV2, P, e, kz _ _ q⟩

def T201 (nV : Int) (edgesV : List (Int × Int)) (fvV : Int) (R : Int → List (Int × Int) → Prop) : Prop :=
  ∃ (Iv : Int → Int → List (Int × Int) → Prop) (m : Int → Int → List (Int × Int) → Nat), Iv 0 nV edgesV ∧
  ∀ x2 : Int, ∀ nV_2 : Int, ∀ edgesV_2 : List (Int × Int), Iv x2 nV_2 edgesV_2 →
  cnd (decide (x2 < fvV))
    (Ok117 nV_2 edgesV_2 0 1 (fun nV2_2 edgesV1_2 =>
    Iv (IntKind.i64.wrap (x2 + (1 : Int))) nV2_2 edgesV1_2 ∧ m (IntKind.i64.wrap (x2 + (1 : Int))) nV2_2 edgesV1_2 < m x2 nV_2 edgesV_2))
    (R nV_2 edgesV_2)

theorem ok201 {nV edgesV fvV} {R : Int → List (Int × Int) → Prop} (T : T201 nV edgesV fvV R) : Ok201 nV edgesV fvV R := by
  intro h dB edgesVA edgesVL edgesVC fvB fvO H
  have Y : Sy h (owns [Ck.ob dB 229 [.int .i64 nV, .slice edgesVA edgesVL edgesVC], Ck.sl eP 35 edgesVA edgesVL edgesVC edgesV]) h _ := Sy.startM H rfl
  obtain rfl := Y.lenS 1 rfl
  apply calls201
  unfold S201
  unfold T201 at T
  refine ⟨fvB, fvO, rfl, ?_⟩
  refine ⟨_, Y.cellW 2 rfl 0 rfl, ?_⟩
  obtain ⟨Iv, m, T0, T1⟩ := T
  obtain ⟨B, hB, YB⟩ := Y.cut [0, 1] [2] rfl
  obtain ⟨F, hF⟩ := Y.fnO (k := 0) [0, 1] rfl
  obtain ⟨JJ, hJJ⟩ : ∃ JJ : Nat → List Value → Heap → Prop, JJ = (fun k lz h' => ∃ (x2 : Int) (nV_2 : Int) (cA : Option Addr) (cL cC : Nat) (edgesV_2 : List (Int × Int)), lz = [.int .i64 x2] ∧ Sy h (owns [Ck.ob dB 229 [.int .i64 nV, .slice edgesVA edgesV.length edgesVC], Ck.sl eP 35 edgesVA edgesV.length edgesVC edgesV]) h' ([F [.int .i64 nV_2, .slice cA cL cC], Ck.sl eP 35 cA cL cC edgesV_2] ++ B) ∧ Iv x2 nV_2 edgesV_2 ∧ m x2 nV_2 edgesV_2 = k) := ⟨_, rfl⟩
  refine ⟨fun lz h' => ∃ k, JJ k lz h', Lm JJ, ?_, ?_⟩
  · subst hJJ hB hF
    exact ⟨_, _, _, _, _, _, _, rfl, YB, T0, rfl⟩
  · clear YB T0 Y
    intro x2 hv hI
    obtain ⟨k, hI, hm⟩ := loopIn hI
    subst hJJ hB hF
    obtain ⟨x2, nV_2, cA, cL, cC, edgesV_2, e, Y, T, rfl⟩ := hI
    cases e
    obtain rfl := Y.lenS 1 rfl
    replace T := T1 x2 nV_2 edgesV_2 T
    have Y : Sy _ _ _ [_, _, _] := Y
    refine cnd_imp T (fun T => ?_) (fun T => ?_)
    · refine callX_sy (T _ _ _ _ _ (Y.pick [0, 1] rfl).hp) (fun _ _ ⟨_, _, _, _, _, p, _⟩ => p.fr) alln ?_
      rintro v hv2 ⟨edgesVA2_2, edgesVL2_2, edgesVC2_2, edgesV1_2, nV2_2, PP, rfl, T⟩
      have Y : Sy _ _ hv2 [_, _, _] := Y.call2 [0, 1, 2] rfl (A := [_, _]) rfl rfl PP ⟨rfl, ⟨rfl, trivial⟩⟩
      clear PP
      obtain rfl := Y.lenS 1 rfl
      refine ⟨rfl, ?_⟩
      exact loopBack hm ⟨_, _, _, _, _, _, rfl, Y.pick [0, 1, 2] rfl, T.1, rfl⟩ T.2
    · exact ⟨_, _, _, _, _, Y.pick [0, 1] rfl, rfl, T⟩

/-- tracery/maker.Random$1 -/
def S202 (dP : Option Addr) (fv : Option Addr) (fv2 : Option Addr) (fv3 : Option Addr) (h : Heap) (R : Value → Heap → Prop) : Prop :=
  ∃ b o, fv = some ⟨b, o, none⟩ ∧ ∃ x : Int, hcell h b o = some (.int .u64 x) ∧ let hv : Heap := h.push (.cells #[.int .u64 x] 166)
  ∃ b2 o2, fv2 = some ⟨b2, o2, none⟩ ∧ ∃ x2 : Int, hcell hv b2 o2 = some (.int .i64 x2) ∧ ∃ (Iv : List Value → Heap → Prop) (m : List Value → Heap → Nat), Iv [.int .i64 0] hv ∧ -- loop 0: ['11']
  ∀ x3 : Int, ∀ hv2, Iv [.int .i64 x3] hv2 →
  cnd (decide (x3 < x2))
    (∃ b3 o3, fv3 = some ⟨b3, o3, none⟩ ∧ ∃ x4 : Int, hcell hv2 b3 o3 = some (.int .i64 x4) ∧ callX Try.prog 116 #[.pointer (some (⟨h.size, 0, none⟩ : Addr)), .int .i64 x4] hv2 [] fun v hv3 =>
    ∃ r : Int, v = .int .i64 r ∧
    ∃ b4 o4, fv3 = some ⟨b4, o4, none⟩ ∧ ∃ x5 : Int, hcell hv3 b4 o4 = some (.int .i64 x5) ∧ callX Try.prog 116 #[.pointer (some (⟨h.size, 0, none⟩ : Addr)), .int .i64 x5] hv3 [] fun v2 hv4 =>
    ∃ r2 : Int, v2 = .int .i64 r2 ∧
    callX Try.prog 117 #[.pointer dP, .int .i64 r, .int .i64 r2] hv4 [] fun v3 hv5 =>
    v3 = .tuple #[] ∧
    Iv [.int .i64 (IntKind.i64.wrap (x3 + (1 : Int)))] hv5 ∧ m [.int .i64 (IntKind.i64.wrap (x3 + (1 : Int)))] hv5 < m [.int .i64 x3] hv2)
    (R (.tuple #[]) hv2)

theorem calls202 {h : Heap} {R : Value → Heap → Prop} (dP : Option Addr) (fv : Option Addr) (fv2 : Option Addr) (fv3 : Option Addr) (H : S202 dP fv fv2 fv3 h R) : CallsH Try.prog 202 #[.pointer dP, .pointer fv, .pointer fv2, .pointer fv3] h R := by
  have e : S202 dP fv fv2 fv3 h R = FX (envX [] 23) { loops := [(0, ⟨[0, 3, 5, 10], [11], [], []⟩)], joins := [], blocks := [], draws := [] } Try.f202 (Try.f202.body.getD .skip) [.pointer dP, .pointer fv, .pointer fv2, .pointer fv3] h R := by kernel_rfl
  exact calls_of_FX (envX_ok _ _) Try.func202 (by kernel_rfl) (by kernel_rfl) (by kernel_rfl) (e ▸ H)

/-- tracery/maker.Random$1 -/
def Ok202 (nV : Int) (edgesV : List (Int × Int)) (fvV : Int) (fvV2 : Int) (fvV3 : Int) (R : Int → List (Int × Int) → Prop) : Prop :=
  ∀ (h : Heap) (dB : Nat) (edgesVA : Option Addr) (edgesVL edgesVC : Nat) (fvB fvO : Nat) (fvB2 fvO2 : Nat) (fvB3 fvO3 : Nat), Hp h [Ck.ob dB 229 [.int .i64 nV, .slice edgesVA edgesVL edgesVC], Ck.sl eP 35 edgesVA edgesVL edgesVC edgesV, Ck.vob fvB fvO [.int .u64 fvV], Ck.vob fvB2 fvO2 [.int .i64 fvV2], Ck.vob fvB3 fvO3 [.int .i64 fvV3]] → CallsH Try.prog 202 #[.pointer (some ⟨dB, 0, none⟩), .pointer (some ⟨fvB, fvO, none⟩), .pointer (some ⟨fvB2, fvO2, none⟩), .pointer (some ⟨fvB3, fvO3, none⟩)] h fun v h' => ∃ (edgesVA2 : Option Addr) (edgesVL2 edgesVC2 : Nat) (edgesV1 : List (Int × Int)) (nV2 : Int), Sy h (owns [Ck.ob dB 229 [.int .i64 nV, .slice edgesVA edgesVL edgesVC], Ck.sl eP 35 edgesVA edgesVL edgesVC edgesV]) h' [Ck.ob dB 229 [.int .i64 nV2, .slice edgesVA2 edgesVL2 edgesVC2], Ck.sl eP 35 edgesVA2 edgesVL2 edgesVC2 edgesV1] ∧ v = .tuple #[] ∧ R nV2 edgesV1
theorem Ok202.mono {nV edgesV fvV fvV2 fvV3} {R R' : Int → List (Int × Int) → Prop} (H : Ok202 nV edgesV fvV fvV2 fvV3 R) (kz : ∀ nV2 edgesV1, R nV2 edgesV1 → R' nV2 edgesV1) : Ok202 nV edgesV fvV fvV2 fvV3 R' :=
  fun h dB edgesVA edgesVL edgesVC fvB fvO fvB2 fvO2 fvB3 fvO3 hp => (H h dB edgesVA edgesVL edgesVC fvB fvO fvB2 fvO2 fvB3 fvO3 hp).mono fun _ _ ⟨edgesVA2, edgesVL2, edgesVC2, edgesV1, nV2, P, e, q⟩ => ⟨edgesVA2, edgesVL2, edgesVC2, edgesV1, nV2, P, e, kz _ _ q⟩

def T202 (nV : Int) (edgesV : List (Int × Int)) (fvV : Int) (fvV2 : Int) (fvV3 : Int) (R : Int → List (Int × Int) → Prop) : Prop :=
  ∃ (Iv : Int → Int → List (Int × Int) → Int → Prop) (m : Int → Int → List (Int × Int) → Int → Nat), Iv 0 nV edgesV fvV ∧
  ∀ x3 : Int, ∀ nV_2 : Int, ∀ edgesV_2 : List (Int × Int), ∀ y : Int, Iv x3 nV_2 edgesV_2 y →
  cnd (decide (x3 < fvV2))
    (Ok116 y fvV3 (fun sV2 r =>
    Ok116 sV2 fvV3 (fun sV2_2 r2 =>
    Ok117 nV_2 edgesV_2 r r2 (fun nV2_2 edgesV1_2 =>
    Iv (IntKind.i64.wrap (x3 + (1 : Int))) nV2_2 edgesV1_2 sV2_2 ∧ m (IntKind.i64.wrap (x3 + (1 : Int))) nV2_2 edgesV1_2 sV2_2 < m x3 nV_2 edgesV_2 y))))
    (R nV_2 edgesV_2)

theorem ok202 {nV edgesV fvV fvV2 fvV3} {R : Int → List (Int × Int) → Prop} (T : T202 nV edgesV fvV fvV2 fvV3 R) : Ok202 nV edgesV fvV fvV2 fvV3 R := by
  intro h dB edgesVA edgesVL edgesVC fvB fvO fvB2 fvO2 fvB3 fvO3 H
  have Y : Sy h (owns [Ck.ob dB 229 [.int .i64 nV, .slice edgesVA edgesVL edgesVC], Ck.sl eP 35 edgesVA edgesVL edgesVC edgesV]) h _ := Sy.startM H rfl
  obtain rfl := Y.lenS 1 rfl
  apply calls202
  unfold S202
  unfold T202 at T
  refine ⟨fvB, fvO, rfl, ?_⟩
  refine ⟨_, Y.cellW 2 rfl 0 rfl, ?_⟩
  intro hv
  have Y : Sy _ _ hv [_, _, _, _, _, _] := Y.newO _
  clear_value hv
  refine ⟨fvB2, fvO2, rfl, ?_⟩
  refine ⟨_, Y.cellW 3 rfl 0 rfl, ?_⟩
  obtain ⟨Iv, m, T0, T1⟩ := T
  obtain ⟨B, hB, YB⟩ := Y.cut [0, 1, 5] [2, 3, 4] rfl
  obtain ⟨F, hF⟩ := Y.fnO (k := 0) [0, 1] rfl
  obtain ⟨F_2, hF_2⟩ := Y.fnO (k := 5) [0] rfl
  obtain ⟨JJ, hJJ⟩ : ∃ JJ : Nat → List Value → Heap → Prop, JJ = (fun k lz h' => ∃ (x3 : Int) (nV_2 : Int) (cA : Option Addr) (cL cC : Nat) (edgesV_2 : List (Int × Int)) (y : Int), lz = [.int .i64 x3] ∧ Sy h (owns [Ck.ob dB 229 [.int .i64 nV, .slice edgesVA edgesV.length edgesVC], Ck.sl eP 35 edgesVA edgesV.length edgesVC edgesV]) h' ([F [.int .i64 nV_2, .slice cA cL cC], Ck.sl eP 35 cA cL cC edgesV_2, F_2 [.int .u64 y]] ++ B) ∧ Iv x3 nV_2 edgesV_2 y ∧ m x3 nV_2 edgesV_2 y = k) := ⟨_, rfl⟩
  refine ⟨fun lz h' => ∃ k, JJ k lz h', Lm JJ, ?_, ?_⟩
  · subst hJJ hB hF hF_2
    exact ⟨_, _, _, _, _, _, _, _, rfl, YB, T0, rfl⟩
  · clear YB T0 Y
    intro x3 hv2 hI
    obtain ⟨k, hI, hm⟩ := loopIn hI
    subst hJJ hB hF hF_2
    obtain ⟨x3, nV_2, cA, cL, cC, edgesV_2, y, e, Y, T, rfl⟩ := hI
    cases e
    obtain rfl := Y.lenS 1 rfl
    replace T := T1 x3 nV_2 edgesV_2 y T
    have Y : Sy _ _ _ [_, _, _, _, _, _] := Y
    refine cnd_imp T (fun T => ?_) (fun T => ?_)
    · refine ⟨fvB3, fvO3, rfl, ?_⟩
      refine ⟨_, Y.cellW 5 rfl 0 rfl, ?_⟩
      refine callX_sy (T _ _ (Y.pick [2] rfl).hp) (fun _ _ ⟨_, _, p, _⟩ => p.fr) alln ?_
      rintro v hv3 ⟨sV2, r, PP, rfl, T⟩
      have Y : Sy _ _ hv3 [_, _, _, _, _, _] := Y.call2 [2, 0, 1, 3, 4, 5] rfl (A := [_]) rfl rfl PP ⟨rfl, trivial⟩
      clear PP
      refine ⟨r, rfl, ?_⟩
      refine ⟨fvB3, fvO3, rfl, ?_⟩
      refine ⟨_, Y.cellW 5 rfl 0 rfl, ?_⟩
      refine callX_sy (T _ _ (Y.pick [0] rfl).hp) (fun _ _ ⟨_, _, p, _⟩ => p.fr) alln ?_
      rintro v2 hv4 ⟨sV2_2, r2, PP, rfl, T⟩
      have Y : Sy _ _ hv4 [_, _, _, _, _, _] := Y.call2 [0, 1, 2, 3, 4, 5] rfl (A := [_]) rfl rfl PP ⟨rfl, trivial⟩
      clear PP
      refine ⟨r2, rfl, ?_⟩
      refine callX_sy (T _ _ _ _ _ (Y.pick [1, 2] rfl).hp) (fun _ _ ⟨_, _, _, _, _, p, _⟩ => p.fr) alln ?_
      rintro v3 hv5 ⟨edgesVA2_2, edgesVL2_2, edgesVC2_2, edgesV1_2, nV2_2, PP, rfl, T⟩
      have Y : Sy _ _ hv5 [_, _, _, _, _, _] := Y.call2 [1, 2, 0, 3, 4, 5] rfl (A := [_, _]) rfl rfl PP ⟨rfl, ⟨rfl, trivial⟩⟩
      clear PP
      obtain rfl := Y.lenS 1 rfl
      refine ⟨rfl, ?_⟩
      exact loopBack hm ⟨_, _, _, _, _, _, _, rfl, Y.pick [0, 1, 2, 3, 4, 5] rfl, T.1, rfl⟩ T.2
    · exact ⟨_, _, _, _, _, Y.pick [0, 1] rfl, rfl, T⟩

/-- tracery/traceryref5.made -/
def S129 (n : Int) (edgesA : Option Addr) (edgesL edgesC : Nat) (h : Heap) (R : Value → Heap → Prop) : Prop :=
  let hv : Heap := h.push (.cells #[.int .i64 0, .slice none 0 0] 26)
  let hv2 : Heap := hv.push (.cells #[.int .i64 0, .slice none 0 0] 26)
  let hv3 : Heap := hset (hset hv2 hv.size 0 (.int .i64 n)) hv.size (0 + 1) (.slice edgesA edgesL edgesC)
  callX Try.prog 43 #[.agg #[.int .i64 n, .slice edgesA edgesL edgesC]] hv3 [hv.size, h.size] fun v hv4 =>
  ∃ r : Bool, v = .bool r ∧
  cnd (!r)
    (let hv5 : Heap := hset (hset hv4 h.size 0 (.int .i64 0)) h.size (0 + 1) (.slice none 0 0)
    R (.tuple #[.agg #[.int .i64 0, .slice none 0 0], .int .i64 3]) hv5)
    (let hv6 : Heap := hset (hset hv4 h.size 0 (.int .i64 n)) h.size (0 + 1) (.slice edgesA edgesL edgesC)
    R (.tuple #[.agg #[.int .i64 n, .slice edgesA edgesL edgesC], .int .i64 0]) hv6)

theorem calls129 {h : Heap} {R : Value → Heap → Prop} (n : Int) (edgesA : Option Addr) (edgesL edgesC : Nat) (H : S129 n edgesA edgesL edgesC h R) : CallsH Try.prog 129 #[.int .i64 n, .slice edgesA edgesL edgesC] h R := by
  have e : S129 n edgesA edgesL edgesC h R = FX (envX [4, 6] 15) { loops := [], joins := [], blocks := [], draws := [] } Try.f129 (Try.f129.body.getD .skip) [.int .i64 n, .slice edgesA edgesL edgesC] h R := by kernel_rfl
  exact calls_of_FX (envX_ok _ _) Try.func129 (by kernel_rfl) (by kernel_rfl) (by kernel_rfl) (e ▸ H)

/-- tracery/traceryref5.made -/
def Ok129 (n : Int) (edgesV : List (Int × Int)) (R : Int → List (Int × Int) → Int → Prop) : Prop :=
  ∀ (h : Heap) (edgesA : Option Addr) (edgesL edgesC : Nat), Hp h [Ck.sl eP 35 edgesA edgesL edgesC edgesV] → CallsH Try.prog 129 #[.int .i64 n, .slice edgesA edgesL edgesC] h fun v h' => ∃ (nV : Int) (edgesVA : Option Addr) (edgesVL edgesVC : Nat) (edgesV2 : List (Int × Int)) (rbV : Int), Sy h (owns [Ck.sl eP 35 edgesA edgesL edgesC edgesV]) h' [Ck.sl eP 35 edgesVA edgesVL edgesVC edgesV2] ∧ v = .tuple #[.agg #[.int .i64 nV, .slice edgesVA edgesVL edgesVC], .int .i64 rbV] ∧ R nV edgesV2 rbV
theorem Ok129.mono {n edgesV} {R R' : Int → List (Int × Int) → Int → Prop} (H : Ok129 n edgesV R) (kz : ∀ nV edgesV2 rbV, R nV edgesV2 rbV → R' nV edgesV2 rbV) : Ok129 n edgesV R' :=
  fun h edgesA edgesL edgesC hp => (H h edgesA edgesL edgesC hp).mono fun _ _ ⟨nV, edgesVA, edgesVL, edgesVC, edgesV2, rbV, P, e, q⟩ => ⟨nV, edgesVA, edgesVL, edgesVC, edgesV2, rbV, P, e, kz _ _ _ q⟩

def T129 (n : Int) (edgesV : List (Int × Int)) (R : Int → List (Int × Int) → Int → Prop) : Prop :=
  Ok43 n edgesV (fun r =>
  cnd (!r)
    (R 0 ([] : List (Int × Int)) 3)
    (R n edgesV 0))

theorem ok129 {n edgesV} {R : Int → List (Int × Int) → Int → Prop} (T : T129 n edgesV R) : Ok129 n edgesV R := by
  intro h edgesA edgesL edgesC H
  have Y : Sy h (owns [Ck.sl eP 35 edgesA edgesL edgesC edgesV]) h _ := Sy.startM H rfl
  obtain rfl := Y.lenS 0 rfl
  apply calls129
  unfold S129
  unfold T129 at T
  intro hv
  have Y : Sy _ _ hv [_, _] := Y.junk _
  clear_value hv
  intro hv2
  have Y : Sy _ _ hv2 [_, _, _] := Y.junk _
  clear_value hv2
  intro hv3
  have Y : Sy _ _ hv3 [_, _, _] := ((Y.stJ 2 rfl _ _).stJ 2 rfl _ _)
  clear_value hv3
  refine callX_sy (T _ _ _ _ ((Y.turn 0 rfl To.slvw).pick [0] rfl).hp) (fun _ _ ⟨_, p, _⟩ => p.fr) (allc (fun h => by cases h) (allc (fun h => by cases h) alln)) ?_
  rintro v hv4 ⟨r, PP, rfl, T⟩
  have Y : Sy _ _ hv4 [_, _, _] := Y.gr PP.fr
  clear PP
  refine ⟨r, rfl, ?_⟩
  refine cnd_imp T (fun T => ?_) (fun T => ?_)
  · intro hv5
    have Y : Sy _ _ hv5 [_, _, _] := ((Y.stJ 1 rfl _ _).stJ 1 rfl _ _)
    clear_value hv5
    have Y : Sy _ _ _ [_, _, _, _] := Y.nilS eP 35
    exact ⟨_, _, _, _, _, _, Y.pick [3] rfl, rfl, T⟩
  · intro hv6
    have Y : Sy _ _ hv6 [_, _, _] := ((Y.stJ 1 rfl _ _).stJ 1 rfl _ _)
    clear_value hv6
    exact ⟨_, _, _, _, _, _, Y.pick [0] rfl, rfl, T⟩

/-- tracery/traceryref5.ring -/
def S130 (lA : Option Addr) (lL lC : Nat) (atv : Int) (n : Int) (h : Heap) (R : Value → Heap → Prop) : Prop :=
  ∃ (Iv : List Value → Heap → Prop) (m : List Value → Heap → Nat), Iv [.slice lA lL lC, .int .i64 0] h ∧ -- loop 0: ['l', 'i']
  ∀ (lA2 : Option Addr) (lL2 lC2 : Nat), ∀ i : Int, ∀ hv, Iv [.slice lA2 lL2 lC2, .int .i64 i] hv →
  cnd (decide ((IntKind.i64.wrap (i + (1 : Int))) < n))
    (let hv2 : Heap := hv.push (.cells #[.int .i64 (IntKind.i64.wrap (atv + i)), .int .i64 (IntKind.i64.wrap ((IntKind.i64.wrap (atv + i)) + (1 : Int)))] 35)
    ∃ old, Own hv2 35 2 lA2 lL2 lC2 old ∧ (∀ b ∈ ([hv.size] : List Nat), b ∉ blkOf lA2) ∧ (lL2 + 1) * 16 ≤ 140737488355328 ∧ (lL2 + 1) ≤ maxLen ∧
    ∀ sA sC hv3, Own hv3 35 2 sA (lL2 + 1) sC (old ++ [.int .i64 (IntKind.i64.wrap (atv + i)), .int .i64 (IntKind.i64.wrap ((IntKind.i64.wrap (atv + i)) + (1 : Int)))]) → Fr (blkOf lA2) hv2 hv3 → ((sA = lA2 ∧ sC = lC2) ∨ ∃ g, sA = some ⟨g, 0, none⟩ ∧ hv2.size ≤ g) → (lC2 < (lL2 + 1) → Fr [] hv2 hv3) →
    Iv [.slice sA (lL2 + 1) sC, .int .i64 (IntKind.i64.wrap (i + (1 : Int)))] hv3 ∧ m [.slice sA (lL2 + 1) sC, .int .i64 (IntKind.i64.wrap (i + (1 : Int)))] hv3 < m [.slice lA2 lL2 lC2, .int .i64 i] hv)
    (let hv4 : Heap := hv.push (.cells #[.int .i64 (IntKind.i64.wrap ((IntKind.i64.wrap (atv + n)) - (1 : Int))), .int .i64 atv] 35)
    ∃ old2, Own hv4 35 2 lA2 lL2 lC2 old2 ∧ (∀ b ∈ ([hv.size] : List Nat), b ∉ blkOf lA2) ∧ (lL2 + 1) * 16 ≤ 140737488355328 ∧ (lL2 + 1) ≤ maxLen ∧
    ∀ sA2 sC2 hv5, Own hv5 35 2 sA2 (lL2 + 1) sC2 (old2 ++ [.int .i64 (IntKind.i64.wrap ((IntKind.i64.wrap (atv + n)) - (1 : Int))), .int .i64 atv]) → Fr (blkOf lA2) hv4 hv5 → ((sA2 = lA2 ∧ sC2 = lC2) ∨ ∃ g, sA2 = some ⟨g, 0, none⟩ ∧ hv4.size ≤ g) → (lC2 < (lL2 + 1) → Fr [] hv4 hv5) →
    R (.slice sA2 (lL2 + 1) sC2) hv5)

theorem calls130 {h : Heap} {R : Value → Heap → Prop} (lA : Option Addr) (lL lC : Nat) (atv : Int) (n : Int) (H : S130 lA lL lC atv n h R) : CallsH Try.prog 130 #[.slice lA lL lC, .int .i64 atv, .int .i64 n] h R := by
  have e : S130 lA lL lC atv n h R = FX (envX [23, 32] 34) { loops := [(0, ⟨[1, 2], [0, 7], [], []⟩)], joins := [], blocks := [], draws := [] } Try.f130 (Try.f130.body.getD .skip) [.slice lA lL lC, .int .i64 atv, .int .i64 n] h R := by kernel_rfl
  exact calls_of_FX (envX_ok _ _) Try.func130 (by kernel_rfl) (by kernel_rfl) (by kernel_rfl) (e ▸ H)

/-- tracery/traceryref5.ring -/
def Ok130 (lV : List (Int × Int)) (atv : Int) (n : Int) (R : List (Int × Int) → Prop) : Prop :=
  ∀ (h : Heap) (lA : Option Addr) (lL lC : Nat), Hp h [Ck.sl eP 35 lA lL lC lV] → CallsH Try.prog 130 #[.slice lA lL lC, .int .i64 atv, .int .i64 n] h fun v h' => ∃ (rVA : Option Addr) (rVL rVC : Nat) (rV : List (Int × Int)), Sy h (owns [Ck.sl eP 35 lA lL lC lV]) h' [Ck.sl eP 35 rVA rVL rVC rV] ∧ v = .slice rVA rVL rVC ∧ R rV
theorem Ok130.mono {lV atv n} {R R' : List (Int × Int) → Prop} (H : Ok130 lV atv n R) (kz : ∀ rV, R rV → R' rV) : Ok130 lV atv n R' :=
  fun h lA lL lC hp => (H h lA lL lC hp).mono fun _ _ ⟨rVA, rVL, rVC, rV, P, e, q⟩ => ⟨rVA, rVL, rVC, rV, P, e, kz _ q⟩

def T130 (lV : List (Int × Int)) (atv : Int) (n : Int) (R : List (Int × Int) → Prop) : Prop :=
  ∃ (Iv : List (Int × Int) → Int → Prop) (m : List (Int × Int) → Int → Nat), Iv lV 0 ∧
  ∀ l : List (Int × Int), ∀ i : Int, Iv l i →
  cnd (decide ((IntKind.i64.wrap (i + (1 : Int))) < n))
    ((l.length + 1) < 1000000000000 ∧ Iv (l ++ [((IntKind.i64.wrap (atv + i)), (IntKind.i64.wrap ((IntKind.i64.wrap (atv + i)) + (1 : Int))))]) (IntKind.i64.wrap (i + (1 : Int))) ∧ m (l ++ [((IntKind.i64.wrap (atv + i)), (IntKind.i64.wrap ((IntKind.i64.wrap (atv + i)) + (1 : Int))))]) (IntKind.i64.wrap (i + (1 : Int))) < m l i)
    ((l.length + 1) < 1000000000000 ∧ R (l ++ [((IntKind.i64.wrap ((IntKind.i64.wrap (atv + n)) - (1 : Int))), atv)]))

theorem ok130 {lV atv n} {R : List (Int × Int) → Prop} (T : T130 lV atv n R) : Ok130 lV atv n R := by
  intro h lA lL lC H
  have Y : Sy h (owns [Ck.sl eP 35 lA lL lC lV]) h _ := Sy.startM H rfl
  obtain rfl := Y.lenS 0 rfl
  apply calls130
  unfold S130
  unfold T130 at T
  obtain ⟨Iv, m, T0, T1⟩ := T
  obtain ⟨B, hB, YB⟩ := Y.cut [0] [] rfl
  obtain ⟨JJ, hJJ⟩ : ∃ JJ : Nat → List Value → Heap → Prop, JJ = (fun k lz h' => ∃ (lA2 : Option Addr) (lL2 lC2 : Nat) (l : List (Int × Int)) (i : Int), lz = [.slice lA2 lL2 lC2, .int .i64 i] ∧ Sy h (owns [Ck.sl eP 35 lA lV.length lC lV]) h' ([Ck.sl eP 35 lA2 lL2 lC2 l] ++ B) ∧ Iv l i ∧ m l i = k) := ⟨_, rfl⟩
  refine ⟨fun lz h' => ∃ k, JJ k lz h', Lm JJ, ?_, ?_⟩
  · subst hJJ hB
    exact ⟨_, _, _, _, _, _, rfl, YB, T0, rfl⟩
  · clear YB T0 Y
    intro lA2 lL2 lC2 i hv hI
    obtain ⟨k, hI, hm⟩ := loopIn hI
    subst hJJ hB
    obtain ⟨lA2, lL2, lC2, l, i, e, Y, T, rfl⟩ := hI
    cases e
    obtain rfl := Y.lenS 0 rfl
    replace T := T1 l i T
    have Y : Sy _ _ _ [_] := Y
    refine cnd_imp T (fun T => ?_) (fun T => ?_)
    · intro hv2
      have Y : Sy _ _ hv2 [_, _] := Y.junk _
      clear_value hv2
      obtain ⟨q, T⟩ := T
      refine ⟨_, Y.ownS 0 rfl, (allc (Y.nJ 0 1 rfl rfl rfl) alln), by first | exact appB q (by decide) | omega, by first | exact appM q | (simp [maxLen]; omega), ?_⟩
      intro sA sC hv3 ow fA gA gB
      have Y : Sy _ _ hv3 [_, _] := Y.appS 0 rfl ([((IntKind.i64.wrap (atv + i)), (IntKind.i64.wrap ((IntKind.i64.wrap (atv + i)) + (1 : Int))))] : List (Int × Int)) ow fA gA rfl rfl
      exact loopBack hm ⟨_, _, _, _, _, rfl, Y.pick [0] rfl, T.1, rfl⟩ T.2
    · intro hv4
      have Y : Sy _ _ hv4 [_, _] := Y.junk _
      clear_value hv4
      obtain ⟨q_2, T⟩ := T
      refine ⟨_, Y.ownS 0 rfl, (allc (Y.nJ 0 1 rfl rfl rfl) alln), by first | exact appB q_2 (by decide) | omega, by first | exact appM q_2 | (simp [maxLen]; omega), ?_⟩
      intro sA2 sC2 hv5 ow fA gA gB
      have Y : Sy _ _ hv5 [_, _] := Y.appS 0 rfl ([((IntKind.i64.wrap ((IntKind.i64.wrap (atv + n)) - (1 : Int))), atv)] : List (Int × Int)) ow fA gA rfl rfl
      exact ⟨_, _, _, _, Y.pick [0] rfl, rfl, T⟩

/-- tracery/traceryref5.complete -/
def S131 (n : Int) (h : Heap) (R : Value → Heap → Prop) : Prop :=
  let hv : Heap := h.push (.cells #[.int .i64 0, .slice none 0 0] 26)
  cnd (decide (n > (79 : Int)))
    (let hv2 : Heap := hset (hset hv h.size 0 (.int .i64 0)) h.size (0 + 1) (.slice none 0 0)
    R (.tuple #[.agg #[.int .i64 0, .slice none 0 0], .int .i64 3]) hv2)
    (∃ (Iv : List Value → Heap → Prop) (m : List Value → Heap → Nat), Iv [.slice none 0 0, .int .i64 0] hv ∧ -- loop 0: ['l', 'i']
    ∀ (lA : Option Addr) (lL lC : Nat), ∀ i : Int, ∀ hv3, Iv [.slice lA lL lC, .int .i64 i] hv3 →
    cnd (decide (i < n))
      (∃ (Iv2 : List Value → Heap → Prop) (m2 : List Value → Heap → Nat), Iv2 [.slice lA lL lC, .int .i64 (IntKind.i64.wrap (i + (1 : Int)))] hv3 ∧ -- loop 2: ['l', 'k']
      ∀ (lA2 : Option Addr) (lL2 lC2 : Nat), ∀ k : Int, ∀ hv4, Iv2 [.slice lA2 lL2 lC2, .int .i64 k] hv4 →
      cnd (decide (k < n))
        (let hv5 : Heap := hv4.push (.cells #[.int .i64 i, .int .i64 k] 35)
        ∃ old, Own hv5 35 2 lA2 lL2 lC2 old ∧ (∀ b ∈ ([hv4.size, h.size] : List Nat), b ∉ blkOf lA2) ∧ (lL2 + 1) * 16 ≤ 140737488355328 ∧ (lL2 + 1) ≤ maxLen ∧
        ∀ sA sC hv6, Own hv6 35 2 sA (lL2 + 1) sC (old ++ [.int .i64 i, .int .i64 k]) → Fr (blkOf lA2) hv5 hv6 → ((sA = lA2 ∧ sC = lC2) ∨ ∃ g, sA = some ⟨g, 0, none⟩ ∧ hv5.size ≤ g) → (lC2 < (lL2 + 1) → Fr [] hv5 hv6) →
        Iv2 [.slice sA (lL2 + 1) sC, .int .i64 (IntKind.i64.wrap (k + (1 : Int)))] hv6 ∧ m2 [.slice sA (lL2 + 1) sC, .int .i64 (IntKind.i64.wrap (k + (1 : Int)))] hv6 < m2 [.slice lA2 lL2 lC2, .int .i64 k] hv4)
        (Iv [.slice lA2 lL2 lC2, .int .i64 (IntKind.i64.wrap (i + (1 : Int)))] hv4 ∧ m [.slice lA2 lL2 lC2, .int .i64 (IntKind.i64.wrap (i + (1 : Int)))] hv4 < m [.slice lA lL lC, .int .i64 i] hv3))
      (callX Try.prog 129 #[.int .i64 n, .slice lA lL lC] hv3 [h.size] fun v hv7 =>
      ∃ ra : Int, ∃ (raA : Option Addr) (raL raC : Nat), ∃ rb : Int, v = .tuple #[.agg #[.int .i64 ra, .slice raA raL raC], .int .i64 rb] ∧
      let hv8 : Heap := hset (hset hv7 h.size 0 (.int .i64 ra)) h.size (0 + 1) (.slice raA raL raC)
      R (.tuple #[.agg #[.int .i64 ra, .slice raA raL raC], .int .i64 rb]) hv8))

theorem calls131 {h : Heap} {R : Value → Heap → Prop} (n : Int) (H : S131 n h R) : CallsH Try.prog 131 #[.int .i64 n] h R := by
  have e : S131 n h R = FX (envX [2, 26] 33) { loops := [(0, ⟨[0, 2], [4, 5], [2], []⟩), (2, ⟨[0, 2, 5], [4, 6], [2], []⟩)], joins := [], blocks := [], draws := [] } Try.f131 (Try.f131.body.getD .skip) [.int .i64 n] h R := by kernel_rfl
  exact calls_of_FX (envX_ok _ _) Try.func131 (by kernel_rfl) (by kernel_rfl) (by kernel_rfl) (e ▸ H)

/-- tracery/traceryref5.complete -/
def Ok131 (n : Int) (R : Int → List (Int × Int) → Int → Prop) : Prop :=
  ∀ (h : Heap), Hp h [] → CallsH Try.prog 131 #[.int .i64 n] h fun v h' => ∃ (nV : Int) (edgesVA : Option Addr) (edgesVL edgesVC : Nat) (edgesV : List (Int × Int)) (rbV : Int), Sy h [] h' [Ck.sl eP 35 edgesVA edgesVL edgesVC edgesV] ∧ v = .tuple #[.agg #[.int .i64 nV, .slice edgesVA edgesVL edgesVC], .int .i64 rbV] ∧ R nV edgesV rbV
theorem Ok131.mono {n} {R R' : Int → List (Int × Int) → Int → Prop} (H : Ok131 n R) (kz : ∀ nV edgesV rbV, R nV edgesV rbV → R' nV edgesV rbV) : Ok131 n R' :=
  fun h  hp => (H h  hp).mono fun _ _ ⟨nV, edgesVA, edgesVL, edgesVC, edgesV, rbV, P, e, q⟩ => ⟨nV, edgesVA, edgesVL, edgesVC, edgesV, rbV, P, e, kz _ _ _ q⟩

def T131 (n : Int) (R : Int → List (Int × Int) → Int → Prop) : Prop :=
  cnd (decide (n > (79 : Int)))
    (R 0 ([] : List (Int × Int)) 3)
    (∃ (Iv : List (Int × Int) → Int → Prop) (m : List (Int × Int) → Int → Nat), Iv ([] : List (Int × Int)) 0 ∧
    ∀ l : List (Int × Int), ∀ i : Int, Iv l i →
    cnd (decide (i < n))
      (∃ (Iv2 : List (Int × Int) → Int → Prop) (m2 : List (Int × Int) → Int → Nat), Iv2 l (IntKind.i64.wrap (i + (1 : Int))) ∧
      ∀ l_2 : List (Int × Int), ∀ k : Int, Iv2 l_2 k →
      cnd (decide (k < n))
        ((l_2.length + 1) < 1000000000000 ∧ Iv2 (l_2 ++ [(i, k)]) (IntKind.i64.wrap (k + (1 : Int))) ∧ m2 (l_2 ++ [(i, k)]) (IntKind.i64.wrap (k + (1 : Int))) < m2 l_2 k)
        (Iv l_2 (IntKind.i64.wrap (i + (1 : Int))) ∧ m l_2 (IntKind.i64.wrap (i + (1 : Int))) < m l i))
      (Ok129 n l (fun ra ra_2 rb =>
      R ra ra_2 rb)))

theorem ok131 {n} {R : Int → List (Int × Int) → Int → Prop} (T : T131 n R) : Ok131 n R := by
  intro h  H
  have Y : Sy h [] h _ := Sy.startM H rfl
  apply calls131
  unfold S131
  unfold T131 at T
  intro hv
  have Y : Sy _ _ hv [_] := Y.junk _
  clear_value hv
  refine cnd_imp T (fun T => ?_) (fun T => ?_)
  · intro hv2
    have Y : Sy _ _ hv2 [_] := ((Y.stJ 0 rfl _ _).stJ 0 rfl _ _)
    clear_value hv2
    have Y : Sy _ _ _ [_, _] := Y.nilS eP 35
    exact ⟨_, _, _, _, _, _, Y.pick [1] rfl, rfl, T⟩
  · have Y : Sy _ _ _ [_, _] := Y.nilS eP 35
    obtain ⟨Iv, m, T0, T1⟩ := T
    obtain ⟨B, hB, YB⟩ := Y.cut [1] [0] rfl
    obtain ⟨JJ, hJJ⟩ : ∃ JJ : Nat → List Value → Heap → Prop, JJ = (fun k_2 lz h' => ∃ (lA : Option Addr) (lL lC : Nat) (l : List (Int × Int)) (i : Int), lz = [.slice lA lL lC, .int .i64 i] ∧ Sy h [] h' ([Ck.sl eP 35 lA lL lC l] ++ B) ∧ Iv l i ∧ m l i = k_2) := ⟨_, rfl⟩
    refine ⟨fun lz h' => ∃ k_2, JJ k_2 lz h', Lm JJ, ?_, ?_⟩
    · subst hJJ hB
      exact ⟨_, _, _, _, _, _, rfl, YB, T0, rfl⟩
    · clear YB T0 Y
      intro lA lL lC i hv3 hI
      obtain ⟨k_2, hI, hm⟩ := loopIn hI
      subst hJJ hB
      obtain ⟨lA, lL, lC, l, i, e, Y, T, rfl⟩ := hI
      cases e
      obtain rfl := Y.lenS 0 rfl
      replace T := T1 l i T
      have Y : Sy _ _ _ [_, _] := Y
      refine cnd_imp T (fun T => ?_) (fun T => ?_)
      · obtain ⟨Iv2, m2, T0, T1⟩ := T
        obtain ⟨B_2, hB_2, YB⟩ := Y.cut [0] [1] rfl
        obtain ⟨JJ_2, hJJ_2⟩ : ∃ JJ_2 : Nat → List Value → Heap → Prop, JJ_2 = (fun k_3 lz h' => ∃ (lA2 : Option Addr) (lL2 lC2 : Nat) (l_2 : List (Int × Int)) (k : Int), lz = [.slice lA2 lL2 lC2, .int .i64 k] ∧ Sy h [] h' ([Ck.sl eP 35 lA2 lL2 lC2 l_2] ++ B_2) ∧ Iv2 l_2 k ∧ m2 l_2 k = k_3) := ⟨_, rfl⟩
        refine ⟨fun lz h' => ∃ k_3, JJ_2 k_3 lz h', Lm JJ_2, ?_, ?_⟩
        · subst hJJ_2 hB_2
          exact ⟨_, _, _, _, _, _, rfl, YB, T0, rfl⟩
        · clear YB T0 Y
          intro lA2 lL2 lC2 k hv4 hI
          obtain ⟨k_3, hI, hm_2⟩ := loopIn hI
          subst hJJ_2 hB_2
          obtain ⟨lA2, lL2, lC2, l_2, k, e, Y, T, rfl⟩ := hI
          cases e
          obtain rfl := Y.lenS 0 rfl
          replace T := T1 l_2 k T
          have Y : Sy _ _ _ [_, _] := Y
          refine cnd_imp T (fun T => ?_) (fun T => ?_)
          · intro hv5
            have Y : Sy _ _ hv5 [_, _, _] := Y.junk _
            clear_value hv5
            obtain ⟨q, T⟩ := T
            refine ⟨_, Y.ownS 0 rfl, (allc (Y.nJ 0 2 rfl rfl rfl) (allc (Y.nJ 0 1 rfl rfl rfl) alln)), by first | exact appB q (by decide) | omega, by first | exact appM q | (simp [maxLen]; omega), ?_⟩
            intro sA sC hv6 ow fA gA gB
            have Y : Sy _ _ hv6 [_, _, _] := Y.appS 0 rfl ([(i, k)] : List (Int × Int)) ow fA gA rfl rfl
            exact loopBack hm_2 ⟨_, _, _, _, _, rfl, Y.pick [0, 1] rfl, T.1, rfl⟩ T.2
          · exact loopBack hm ⟨_, _, _, _, _, rfl, Y.pick [0, 1] rfl, T.1, rfl⟩ T.2
      · refine callX_sy (T _ _ _ _ (Y.pick [0] rfl).hp) (fun _ _ ⟨_, _, _, _, _, _, p, _⟩ => p.fr) (allc (Y.nO 1 [0] rfl rfl) alln) ?_
        rintro v hv7 ⟨ra, raA, raL, raC, ra_2, rb, PP, rfl, T⟩
        have Y : Sy _ _ hv7 [_, _] := Y.call2 [0, 1] rfl (A := [_]) rfl rfl PP ⟨rfl, trivial⟩
        clear PP
        obtain rfl := Y.lenS 0 rfl
        refine ⟨ra, _, _, _, rb, rfl, ?_⟩
        intro hv8
        have Y : Sy _ _ hv8 [_, _] := ((Y.stJ 1 rfl _ _).stJ 1 rfl _ _)
        clear_value hv8
        exact ⟨_, _, _, _, _, _, Y.pick [0] rfl, rfl, T⟩

/-- tracery/traceryref5.sides -/
def S132 (a : Int) (b : Int) (h : Heap) (R : Value → Heap → Prop) : Prop :=
  let hv : Heap := h.push (.cells #[.int .i64 0, .slice none 0 0] 26)
  cnd (decide ((IntKind.i64.wrap (a * b)) > (3072 : Int)))
    (let hv2 : Heap := hset (hset hv h.size 0 (.int .i64 0)) h.size (0 + 1) (.slice none 0 0)
    R (.tuple #[.agg #[.int .i64 0, .slice none 0 0], .int .i64 3]) hv2)
    (∃ (Iv : List Value → Heap → Prop) (m : List Value → Heap → Nat), Iv [.slice none 0 0, .int .i64 0] hv ∧ -- loop 0: ['l', 'i']
    ∀ (lA : Option Addr) (lL lC : Nat), ∀ i : Int, ∀ hv3, Iv [.slice lA lL lC, .int .i64 i] hv3 →
    cnd (decide (i < a))
      (∃ (Iv2 : List Value → Heap → Prop) (m2 : List Value → Heap → Nat), Iv2 [.slice lA lL lC, .int .i64 0] hv3 ∧ -- loop 2: ['l', 'k']
      ∀ (lA2 : Option Addr) (lL2 lC2 : Nat), ∀ k : Int, ∀ hv4, Iv2 [.slice lA2 lL2 lC2, .int .i64 k] hv4 →
      cnd (decide (k < b))
        (let hv5 : Heap := hv4.push (.cells #[.int .i64 i, .int .i64 (IntKind.i64.wrap (a + k))] 35)
        ∃ old, Own hv5 35 2 lA2 lL2 lC2 old ∧ (∀ b ∈ ([hv4.size, h.size] : List Nat), b ∉ blkOf lA2) ∧ (lL2 + 1) * 16 ≤ 140737488355328 ∧ (lL2 + 1) ≤ maxLen ∧
        ∀ sA sC hv6, Own hv6 35 2 sA (lL2 + 1) sC (old ++ [.int .i64 i, .int .i64 (IntKind.i64.wrap (a + k))]) → Fr (blkOf lA2) hv5 hv6 → ((sA = lA2 ∧ sC = lC2) ∨ ∃ g, sA = some ⟨g, 0, none⟩ ∧ hv5.size ≤ g) → (lC2 < (lL2 + 1) → Fr [] hv5 hv6) →
        Iv2 [.slice sA (lL2 + 1) sC, .int .i64 (IntKind.i64.wrap (k + (1 : Int)))] hv6 ∧ m2 [.slice sA (lL2 + 1) sC, .int .i64 (IntKind.i64.wrap (k + (1 : Int)))] hv6 < m2 [.slice lA2 lL2 lC2, .int .i64 k] hv4)
        (Iv [.slice lA2 lL2 lC2, .int .i64 (IntKind.i64.wrap (i + (1 : Int)))] hv4 ∧ m [.slice lA2 lL2 lC2, .int .i64 (IntKind.i64.wrap (i + (1 : Int)))] hv4 < m [.slice lA lL lC, .int .i64 i] hv3))
      (callX Try.prog 129 #[.int .i64 (IntKind.i64.wrap (a + b)), .slice lA lL lC] hv3 [h.size] fun v hv7 =>
      ∃ ra : Int, ∃ (raA : Option Addr) (raL raC : Nat), ∃ rb : Int, v = .tuple #[.agg #[.int .i64 ra, .slice raA raL raC], .int .i64 rb] ∧
      let hv8 : Heap := hset (hset hv7 h.size 0 (.int .i64 ra)) h.size (0 + 1) (.slice raA raL raC)
      R (.tuple #[.agg #[.int .i64 ra, .slice raA raL raC], .int .i64 rb]) hv8))

theorem calls132 {h : Heap} {R : Value → Heap → Prop} (a : Int) (b : Int) (H : S132 a b h R) : CallsH Try.prog 132 #[.int .i64 a, .int .i64 b] h R := by
  have e : S132 a b h R = FX (envX [4, 30] 39) { loops := [(0, ⟨[0, 1, 4], [6, 7], [4], []⟩), (2, ⟨[0, 1, 4, 7], [6, 8], [4], []⟩)], joins := [], blocks := [], draws := [] } Try.f132 (Try.f132.body.getD .skip) [.int .i64 a, .int .i64 b] h R := by kernel_rfl
  exact calls_of_FX (envX_ok _ _) Try.func132 (by kernel_rfl) (by kernel_rfl) (by kernel_rfl) (e ▸ H)

/-- tracery/traceryref5.sides -/
def Ok132 (a : Int) (b : Int) (R : Int → List (Int × Int) → Int → Prop) : Prop :=
  ∀ (h : Heap), Hp h [] → CallsH Try.prog 132 #[.int .i64 a, .int .i64 b] h fun v h' => ∃ (nV : Int) (edgesVA : Option Addr) (edgesVL edgesVC : Nat) (edgesV : List (Int × Int)) (rbV : Int), Sy h [] h' [Ck.sl eP 35 edgesVA edgesVL edgesVC edgesV] ∧ v = .tuple #[.agg #[.int .i64 nV, .slice edgesVA edgesVL edgesVC], .int .i64 rbV] ∧ R nV edgesV rbV
theorem Ok132.mono {a b} {R R' : Int → List (Int × Int) → Int → Prop} (H : Ok132 a b R) (kz : ∀ nV edgesV rbV, R nV edgesV rbV → R' nV edgesV rbV) : Ok132 a b R' :=
  fun h  hp => (H h  hp).mono fun _ _ ⟨nV, edgesVA, edgesVL, edgesVC, edgesV, rbV, P, e, q⟩ => ⟨nV, edgesVA, edgesVL, edgesVC, edgesV, rbV, P, e, kz _ _ _ q⟩

def T132 (a : Int) (b : Int) (R : Int → List (Int × Int) → Int → Prop) : Prop :=
  cnd (decide ((IntKind.i64.wrap (a * b)) > (3072 : Int)))
    (R 0 ([] : List (Int × Int)) 3)
    (∃ (Iv : List (Int × Int) → Int → Prop) (m : List (Int × Int) → Int → Nat), Iv ([] : List (Int × Int)) 0 ∧
    ∀ l : List (Int × Int), ∀ i : Int, Iv l i →
    cnd (decide (i < a))
      (∃ (Iv2 : List (Int × Int) → Int → Prop) (m2 : List (Int × Int) → Int → Nat), Iv2 l 0 ∧
      ∀ l_2 : List (Int × Int), ∀ k : Int, Iv2 l_2 k →
      cnd (decide (k < b))
        ((l_2.length + 1) < 1000000000000 ∧ Iv2 (l_2 ++ [(i, (IntKind.i64.wrap (a + k)))]) (IntKind.i64.wrap (k + (1 : Int))) ∧ m2 (l_2 ++ [(i, (IntKind.i64.wrap (a + k)))]) (IntKind.i64.wrap (k + (1 : Int))) < m2 l_2 k)
        (Iv l_2 (IntKind.i64.wrap (i + (1 : Int))) ∧ m l_2 (IntKind.i64.wrap (i + (1 : Int))) < m l i))
      (Ok129 (IntKind.i64.wrap (a + b)) l (fun ra ra_2 rb =>
      R ra ra_2 rb)))

theorem ok132 {a b} {R : Int → List (Int × Int) → Int → Prop} (T : T132 a b R) : Ok132 a b R := by
  intro h  H
  have Y : Sy h [] h _ := Sy.startM H rfl
  apply calls132
  unfold S132
  unfold T132 at T
  intro hv
  have Y : Sy _ _ hv [_] := Y.junk _
  clear_value hv
  refine cnd_imp T (fun T => ?_) (fun T => ?_)
  · intro hv2
    have Y : Sy _ _ hv2 [_] := ((Y.stJ 0 rfl _ _).stJ 0 rfl _ _)
    clear_value hv2
    have Y : Sy _ _ _ [_, _] := Y.nilS eP 35
    exact ⟨_, _, _, _, _, _, Y.pick [1] rfl, rfl, T⟩
  · have Y : Sy _ _ _ [_, _] := Y.nilS eP 35
    obtain ⟨Iv, m, T0, T1⟩ := T
    obtain ⟨B, hB, YB⟩ := Y.cut [1] [0] rfl
    obtain ⟨JJ, hJJ⟩ : ∃ JJ : Nat → List Value → Heap → Prop, JJ = (fun k_2 lz h' => ∃ (lA : Option Addr) (lL lC : Nat) (l : List (Int × Int)) (i : Int), lz = [.slice lA lL lC, .int .i64 i] ∧ Sy h [] h' ([Ck.sl eP 35 lA lL lC l] ++ B) ∧ Iv l i ∧ m l i = k_2) := ⟨_, rfl⟩
    refine ⟨fun lz h' => ∃ k_2, JJ k_2 lz h', Lm JJ, ?_, ?_⟩
    · subst hJJ hB
      exact ⟨_, _, _, _, _, _, rfl, YB, T0, rfl⟩
    · clear YB T0 Y
      intro lA lL lC i hv3 hI
      obtain ⟨k_2, hI, hm⟩ := loopIn hI
      subst hJJ hB
      obtain ⟨lA, lL, lC, l, i, e, Y, T, rfl⟩ := hI
      cases e
      obtain rfl := Y.lenS 0 rfl
      replace T := T1 l i T
      have Y : Sy _ _ _ [_, _] := Y
      refine cnd_imp T (fun T => ?_) (fun T => ?_)
      · obtain ⟨Iv2, m2, T0, T1⟩ := T
        obtain ⟨B_2, hB_2, YB⟩ := Y.cut [0] [1] rfl
        obtain ⟨JJ_2, hJJ_2⟩ : ∃ JJ_2 : Nat → List Value → Heap → Prop, JJ_2 = (fun k_3 lz h' => ∃ (lA2 : Option Addr) (lL2 lC2 : Nat) (l_2 : List (Int × Int)) (k : Int), lz = [.slice lA2 lL2 lC2, .int .i64 k] ∧ Sy h [] h' ([Ck.sl eP 35 lA2 lL2 lC2 l_2] ++ B_2) ∧ Iv2 l_2 k ∧ m2 l_2 k = k_3) := ⟨_, rfl⟩
        refine ⟨fun lz h' => ∃ k_3, JJ_2 k_3 lz h', Lm JJ_2, ?_, ?_⟩
        · subst hJJ_2 hB_2
          exact ⟨_, _, _, _, _, _, rfl, YB, T0, rfl⟩
        · clear YB T0 Y
          intro lA2 lL2 lC2 k hv4 hI
          obtain ⟨k_3, hI, hm_2⟩ := loopIn hI
          subst hJJ_2 hB_2
          obtain ⟨lA2, lL2, lC2, l_2, k, e, Y, T, rfl⟩ := hI
          cases e
          obtain rfl := Y.lenS 0 rfl
          replace T := T1 l_2 k T
          have Y : Sy _ _ _ [_, _] := Y
          refine cnd_imp T (fun T => ?_) (fun T => ?_)
          · intro hv5
            have Y : Sy _ _ hv5 [_, _, _] := Y.junk _
            clear_value hv5
            obtain ⟨q, T⟩ := T
            refine ⟨_, Y.ownS 0 rfl, (allc (Y.nJ 0 2 rfl rfl rfl) (allc (Y.nJ 0 1 rfl rfl rfl) alln)), by first | exact appB q (by decide) | omega, by first | exact appM q | (simp [maxLen]; omega), ?_⟩
            intro sA sC hv6 ow fA gA gB
            have Y : Sy _ _ hv6 [_, _, _] := Y.appS 0 rfl ([(i, (IntKind.i64.wrap (a + k)))] : List (Int × Int)) ow fA gA rfl rfl
            exact loopBack hm_2 ⟨_, _, _, _, _, rfl, Y.pick [0, 1] rfl, T.1, rfl⟩ T.2
          · exact loopBack hm ⟨_, _, _, _, _, rfl, Y.pick [0, 1] rfl, T.1, rfl⟩ T.2
      · refine callX_sy (T _ _ _ _ (Y.pick [0] rfl).hp) (fun _ _ ⟨_, _, _, _, _, _, p, _⟩ => p.fr) (allc (Y.nO 1 [0] rfl rfl) alln) ?_
        rintro v hv7 ⟨ra, raA, raL, raC, ra_2, rb, PP, rfl, T⟩
        have Y : Sy _ _ hv7 [_, _] := Y.call2 [0, 1] rfl (A := [_]) rfl rfl PP ⟨rfl, trivial⟩
        clear PP
        obtain rfl := Y.lenS 0 rfl
        refine ⟨ra, _, _, _, rb, rfl, ?_⟩
        intro hv8
        have Y : Sy _ _ hv8 [_, _] := ((Y.stJ 1 rfl _ _).stJ 1 rfl _ _)
        clear_value hv8
        exact ⟨_, _, _, _, _, _, Y.pick [0] rfl, rfl, T⟩

/-- tracery/traceryref5.grid -/
def S133 (w : Int) (hv : Int) (h : Heap) (R : Value → Heap → Prop) : Prop :=
  let hv2 : Heap := h.push (.cells #[.int .i64 0, .slice none 0 0] 26)
  cnd (decide ((IntKind.i64.wrap (w * hv)) > (1024 : Int)))
    (let hv3 : Heap := hset (hset hv2 h.size 0 (.int .i64 0)) h.size (0 + 1) (.slice none 0 0)
    R (.tuple #[.agg #[.int .i64 0, .slice none 0 0], .int .i64 3]) hv3)
    (∃ (Iv : List Value → Heap → Prop) (m : List Value → Heap → Nat), Iv [.slice none 0 0, .int .i64 0] hv2 ∧ -- loop 0: ['l', 'v']
    ∀ (lA : Option Addr) (lL lC : Nat), ∀ v : Int, ∀ hv4, Iv [.slice lA lL lC, .int .i64 v] hv4 →
    cnd (decide (v < (IntKind.i64.wrap (w * hv))))
      (w ≠ 0 ∧ ∃ Jv : List Value → Heap → Prop, -- join 25 ['l']
      ( cnd (decide ((IntKind.i64.wrap ((Int.tmod v w) + (1 : Int))) < w))
         (let hv5 : Heap := hv4.push (.cells #[.int .i64 v, .int .i64 (IntKind.i64.wrap (v + (1 : Int)))] 35)
         ∃ old, Own hv5 35 2 lA lL lC old ∧ (∀ b ∈ ([hv4.size, h.size] : List Nat), b ∉ blkOf lA) ∧ (lL + 1) * 16 ≤ 140737488355328 ∧ (lL + 1) ≤ maxLen ∧
         ∀ sA sC hv6, Own hv6 35 2 sA (lL + 1) sC (old ++ [.int .i64 v, .int .i64 (IntKind.i64.wrap (v + (1 : Int)))]) → Fr (blkOf lA) hv5 hv6 → ((sA = lA ∧ sC = lC) ∨ ∃ g, sA = some ⟨g, 0, none⟩ ∧ hv5.size ≤ g) → (lC < (lL + 1) → Fr [] hv5 hv6) →
         Jv [.slice sA (lL + 1) sC] hv6)
         (Jv [.slice lA lL lC] hv4)) ∧
      ∀ (lA2 : Option Addr) (lL2 lC2 : Nat), ∀ hv7, Jv [.slice lA2 lL2 lC2] hv7 →
      w ≠ 0 ∧ ∃ Jv2 : List Value → Heap → Prop, -- join 38 ['l']
      ( cnd (decide ((IntKind.i64.wrap ((IntKind.i64.wrap (Int.tdiv v w)) + (1 : Int))) < hv))
         (let hv8 : Heap := hv7.push (.cells #[.int .i64 v, .int .i64 (IntKind.i64.wrap (v + w))] 35)
         ∃ old2, Own hv8 35 2 lA2 lL2 lC2 old2 ∧ (∀ b ∈ ([hv7.size, h.size] : List Nat), b ∉ blkOf lA2) ∧ (lL2 + 1) * 16 ≤ 140737488355328 ∧ (lL2 + 1) ≤ maxLen ∧
         ∀ sA2 sC2 hv9, Own hv9 35 2 sA2 (lL2 + 1) sC2 (old2 ++ [.int .i64 v, .int .i64 (IntKind.i64.wrap (v + w))]) → Fr (blkOf lA2) hv8 hv9 → ((sA2 = lA2 ∧ sC2 = lC2) ∨ ∃ g, sA2 = some ⟨g, 0, none⟩ ∧ hv8.size ≤ g) → (lC2 < (lL2 + 1) → Fr [] hv8 hv9) →
         Jv2 [.slice sA2 (lL2 + 1) sC2] hv9)
         (Jv2 [.slice lA2 lL2 lC2] hv7)) ∧
      ∀ (lA3 : Option Addr) (lL3 lC3 : Nat), ∀ hv10, Jv2 [.slice lA3 lL3 lC3] hv10 →
      Iv [.slice lA3 lL3 lC3, .int .i64 (IntKind.i64.wrap (v + (1 : Int)))] hv10 ∧ m [.slice lA3 lL3 lC3, .int .i64 (IntKind.i64.wrap (v + (1 : Int)))] hv10 < m [.slice lA lL lC, .int .i64 v] hv4)
      (callX Try.prog 129 #[.int .i64 (IntKind.i64.wrap (w * hv)), .slice lA lL lC] hv4 [h.size] fun v2 hv11 =>
      ∃ ra : Int, ∃ (raA : Option Addr) (raL raC : Nat), ∃ rb : Int, v2 = .tuple #[.agg #[.int .i64 ra, .slice raA raL raC], .int .i64 rb] ∧
      let hv12 : Heap := hset (hset hv11 h.size 0 (.int .i64 ra)) h.size (0 + 1) (.slice raA raL raC)
      R (.tuple #[.agg #[.int .i64 ra, .slice raA raL raC], .int .i64 rb]) hv12))

theorem calls133 {h : Heap} {R : Value → Heap → Prop} (w : Int) (hv : Int) (H : S133 w hv h R) : CallsH Try.prog 133 #[.int .i64 w, .int .i64 hv] h R := by
  have e : S133 w hv h R = FX (envX [4, 31, 45] 54) { loops := [(0, ⟨[0, 1, 4], [6, 7], [4], []⟩)], joins := [(25, ⟨[0, 1, 4, 7], [6], [4], []⟩), (38, ⟨[0, 1, 4, 7], [6], [4], []⟩)], blocks := [], draws := [] } Try.f133 (Try.f133.body.getD .skip) [.int .i64 w, .int .i64 hv] h R := by kernel_rfl
  exact calls_of_FX (envX_ok _ _) Try.func133 (by kernel_rfl) (by kernel_rfl) (by kernel_rfl) (e ▸ H)

/-- tracery/traceryref5.grid -/
def Ok133 (w : Int) (hv : Int) (R : Int → List (Int × Int) → Int → Prop) : Prop :=
  ∀ (h : Heap), Hp h [] → CallsH Try.prog 133 #[.int .i64 w, .int .i64 hv] h fun v h' => ∃ (nV : Int) (edgesVA : Option Addr) (edgesVL edgesVC : Nat) (edgesV : List (Int × Int)) (rbV : Int), Sy h [] h' [Ck.sl eP 35 edgesVA edgesVL edgesVC edgesV] ∧ v = .tuple #[.agg #[.int .i64 nV, .slice edgesVA edgesVL edgesVC], .int .i64 rbV] ∧ R nV edgesV rbV
theorem Ok133.mono {w hv} {R R' : Int → List (Int × Int) → Int → Prop} (H : Ok133 w hv R) (kz : ∀ nV edgesV rbV, R nV edgesV rbV → R' nV edgesV rbV) : Ok133 w hv R' :=
  fun h  hp => (H h  hp).mono fun _ _ ⟨nV, edgesVA, edgesVL, edgesVC, edgesV, rbV, P, e, q⟩ => ⟨nV, edgesVA, edgesVL, edgesVC, edgesV, rbV, P, e, kz _ _ _ q⟩

def T133 (w : Int) (hv : Int) (R : Int → List (Int × Int) → Int → Prop) : Prop :=
  cnd (decide ((IntKind.i64.wrap (w * hv)) > (1024 : Int)))
    (R 0 ([] : List (Int × Int)) 3)
    (∃ (Iv : List (Int × Int) → Int → Prop) (m : List (Int × Int) → Int → Nat), Iv ([] : List (Int × Int)) 0 ∧
    ∀ l : List (Int × Int), ∀ v : Int, Iv l v →
    cnd (decide (v < (IntKind.i64.wrap (w * hv))))
      (w ≠ 0 ∧ ∃ Jv : List (Int × Int) → Prop,
      ( cnd (decide ((IntKind.i64.wrap ((Int.tmod v w) + (1 : Int))) < w))
         ((l.length + 1) < 1000000000000 ∧ Jv (l ++ [(v, (IntKind.i64.wrap (v + (1 : Int))))]))
         (Jv l)) ∧
      ∀ l_2 : List (Int × Int), Jv l_2 →
      w ≠ 0 ∧ ∃ Jv2 : List (Int × Int) → Prop,
      ( cnd (decide ((IntKind.i64.wrap ((IntKind.i64.wrap (Int.tdiv v w)) + (1 : Int))) < hv))
         ((l_2.length + 1) < 1000000000000 ∧ Jv2 (l_2 ++ [(v, (IntKind.i64.wrap (v + w)))]))
         (Jv2 l_2)) ∧
      ∀ l_3 : List (Int × Int), Jv2 l_3 →
      Iv l_3 (IntKind.i64.wrap (v + (1 : Int))) ∧ m l_3 (IntKind.i64.wrap (v + (1 : Int))) < m l v)
      (Ok129 (IntKind.i64.wrap (w * hv)) l (fun ra ra_2 rb =>
      R ra ra_2 rb)))

theorem ok133 {w hv} {R : Int → List (Int × Int) → Int → Prop} (T : T133 w hv R) : Ok133 w hv R := by
  intro h  H
  have Y : Sy h [] h _ := Sy.startM H rfl
  apply calls133
  unfold S133
  unfold T133 at T
  intro hv2
  have Y : Sy _ _ hv2 [_] := Y.junk _
  clear_value hv2
  refine cnd_imp T (fun T => ?_) (fun T => ?_)
  · intro hv3
    have Y : Sy _ _ hv3 [_] := ((Y.stJ 0 rfl _ _).stJ 0 rfl _ _)
    clear_value hv3
    have Y : Sy _ _ _ [_, _] := Y.nilS eP 35
    exact ⟨_, _, _, _, _, _, Y.pick [1] rfl, rfl, T⟩
  · have Y : Sy _ _ _ [_, _] := Y.nilS eP 35
    obtain ⟨Iv, m, T0, T1⟩ := T
    obtain ⟨B, hB, YB⟩ := Y.cut [1] [0] rfl
    obtain ⟨JJ, hJJ⟩ : ∃ JJ : Nat → List Value → Heap → Prop, JJ = (fun k lz h' => ∃ (lA : Option Addr) (lL lC : Nat) (l : List (Int × Int)) (v : Int), lz = [.slice lA lL lC, .int .i64 v] ∧ Sy h [] h' ([Ck.sl eP 35 lA lL lC l] ++ B) ∧ Iv l v ∧ m l v = k) := ⟨_, rfl⟩
    refine ⟨fun lz h' => ∃ k, JJ k lz h', Lm JJ, ?_, ?_⟩
    · subst hJJ hB
      exact ⟨_, _, _, _, _, _, rfl, YB, T0, rfl⟩
    · clear YB T0 Y
      intro lA lL lC v hv4 hI
      obtain ⟨k, hI, hm⟩ := loopIn hI
      subst hJJ hB
      obtain ⟨lA, lL, lC, l, v, e, Y, T, rfl⟩ := hI
      cases e
      obtain rfl := Y.lenS 0 rfl
      replace T := T1 l v T
      have Y : Sy _ _ _ [_, _] := Y
      refine cnd_imp T (fun T => ?_) (fun T => ?_)
      · obtain ⟨q_4, T⟩ := T
        refine ⟨q_4, ?_⟩
        obtain ⟨Jv, T0, T1⟩ := T
        obtain ⟨B_2, hB_2, _⟩ := Y.cut [] [1] rfl
        refine ⟨fun lz h' => ∃ (lA2 : Option Addr) (lL2 lC2 : Nat) (l_2 : List (Int × Int)), lz = [.slice lA2 lL2 lC2] ∧ Sy h [] h' ([Ck.sl eP 35 lA2 lL2 lC2 l_2] ++ B_2) ∧ Jv l_2, ?_, ?_⟩
        · subst hB_2
          replace T := T0
          clear T0 T1
          refine cnd_imp T (fun T => ?_) (fun T => ?_)
          · intro hv5
            have Y : Sy _ _ hv5 [_, _, _] := Y.junk _
            clear_value hv5
            obtain ⟨q, T⟩ := T
            refine ⟨_, Y.ownS 0 rfl, (allc (Y.nJ 0 2 rfl rfl rfl) (allc (Y.nJ 0 1 rfl rfl rfl) alln)), by first | exact appB q (by decide) | omega, by first | exact appM q | (simp [maxLen]; omega), ?_⟩
            intro sA sC hv6 ow fA gA gB
            have Y : Sy _ _ hv6 [_, _, _] := Y.appS 0 rfl ([(v, (IntKind.i64.wrap (v + (1 : Int))))] : List (Int × Int)) ow fA gA rfl rfl
            exact ⟨_, _, _, _, rfl, Y.pick [0, 1] rfl, T⟩
          · exact ⟨_, _, _, _, rfl, Y.pick [0, 1] rfl, T⟩
        · subst hB_2
          clear T0 Y
          rintro lA2 lL2 lC2 hv7 ⟨lA2, lL2, lC2, l_2, e, Y, T⟩
          cases e
          obtain rfl := Y.lenS 0 rfl
          replace T := T1 l_2 T
          have Y : Sy _ _ _ [_, _] := Y
          obtain ⟨q_3, T⟩ := T
          refine ⟨q_3, ?_⟩
          obtain ⟨Jv2, T0, T1⟩ := T
          obtain ⟨B_3, hB_3, _⟩ := Y.cut [] [1] rfl
          refine ⟨fun lz h' => ∃ (lA3 : Option Addr) (lL3 lC3 : Nat) (l_3 : List (Int × Int)), lz = [.slice lA3 lL3 lC3] ∧ Sy h [] h' ([Ck.sl eP 35 lA3 lL3 lC3 l_3] ++ B_3) ∧ Jv2 l_3, ?_, ?_⟩
          · subst hB_3
            replace T := T0
            clear T0 T1
            refine cnd_imp T (fun T => ?_) (fun T => ?_)
            · intro hv8
              have Y : Sy _ _ hv8 [_, _, _] := Y.junk _
              clear_value hv8
              obtain ⟨q_2, T⟩ := T
              refine ⟨_, Y.ownS 0 rfl, (allc (Y.nJ 0 2 rfl rfl rfl) (allc (Y.nJ 0 1 rfl rfl rfl) alln)), by first | exact appB q_2 (by decide) | omega, by first | exact appM q_2 | (simp [maxLen]; omega), ?_⟩
              intro sA2 sC2 hv9 ow fA gA gB
              have Y : Sy _ _ hv9 [_, _, _] := Y.appS 0 rfl ([(v, (IntKind.i64.wrap (v + w)))] : List (Int × Int)) ow fA gA rfl rfl
              exact ⟨_, _, _, _, rfl, Y.pick [0, 1] rfl, T⟩
            · exact ⟨_, _, _, _, rfl, Y.pick [0, 1] rfl, T⟩
          · subst hB_3
            clear T0 Y
            rintro lA3 lL3 lC3 hv10 ⟨lA3, lL3, lC3, l_3, e, Y, T⟩
            cases e
            obtain rfl := Y.lenS 0 rfl
            replace T := T1 l_3 T
            have Y : Sy _ _ _ [_, _] := Y
            exact loopBack hm ⟨_, _, _, _, _, rfl, Y.pick [0, 1] rfl, T.1, rfl⟩ T.2
      · refine callX_sy (T _ _ _ _ (Y.pick [0] rfl).hp) (fun _ _ ⟨_, _, _, _, _, _, p, _⟩ => p.fr) (allc (Y.nO 1 [0] rfl rfl) alln) ?_
        rintro v2 hv11 ⟨ra, raA, raL, raC, ra_2, rb, PP, rfl, T⟩
        have Y : Sy _ _ hv11 [_, _] := Y.call2 [0, 1] rfl (A := [_]) rfl rfl PP ⟨rfl, trivial⟩
        clear PP
        obtain rfl := Y.lenS 0 rfl
        refine ⟨ra, _, _, _, rb, rfl, ?_⟩
        intro hv12
        have Y : Sy _ _ hv12 [_, _] := ((Y.stJ 1 rfl _ _).stJ 1 rfl _ _)
        clear_value hv12
        exact ⟨_, _, _, _, _, _, Y.pick [0] rfl, rfl, T⟩

/-- tracery/traceryref5.random -/
def S134 (n : Int) (m : Int) (seed : Int) (h : Heap) (R : Value → Heap → Prop) : Prop :=
  let hv : Heap := h.push (.cells #[.int .i64 0, .slice none 0 0] 26)
  ∃ (Iv : List Value → Heap → Prop) (m2 : List Value → Heap → Nat), Iv [.slice none 0 0, .int .u64 seed, .int .i64 0] hv ∧ -- loop 0: ['l', 's', 'i']
  ∀ (lA : Option Addr) (lL lC : Nat), ∀ s : Int, ∀ i : Int, ∀ hv2, Iv [.slice lA lL lC, .int .u64 s, .int .i64 i] hv2 →
  cnd (decide (i < m))
    (callX Try.prog 199 #[.int .u64 s, .int .i64 n] hv2 [h.size] fun v hv3 =>
    ∃ ra : Int, ∃ rb : Int, v = .tuple #[.int .u64 ra, .int .i64 rb] ∧
    callX Try.prog 199 #[.int .u64 ra, .int .i64 n] hv3 [h.size] fun v2 hv4 =>
    ∃ ra2 : Int, ∃ rb2 : Int, v2 = .tuple #[.int .u64 ra2, .int .i64 rb2] ∧
    let hv5 : Heap := hv4.push (.cells #[.int .i64 rb, .int .i64 rb2] 35)
    ∃ old, Own hv5 35 2 lA lL lC old ∧ (∀ b ∈ ([hv4.size, h.size] : List Nat), b ∉ blkOf lA) ∧ (lL + 1) * 16 ≤ 140737488355328 ∧ (lL + 1) ≤ maxLen ∧
    ∀ sA sC hv6, Own hv6 35 2 sA (lL + 1) sC (old ++ [.int .i64 rb, .int .i64 rb2]) → Fr (blkOf lA) hv5 hv6 → ((sA = lA ∧ sC = lC) ∨ ∃ g, sA = some ⟨g, 0, none⟩ ∧ hv5.size ≤ g) → (lC < (lL + 1) → Fr [] hv5 hv6) →
    Iv [.slice sA (lL + 1) sC, .int .u64 ra2, .int .i64 (IntKind.i64.wrap (i + (1 : Int)))] hv6 ∧ m2 [.slice sA (lL + 1) sC, .int .u64 ra2, .int .i64 (IntKind.i64.wrap (i + (1 : Int)))] hv6 < m2 [.slice lA lL lC, .int .u64 s, .int .i64 i] hv2)
    (callX Try.prog 129 #[.int .i64 n, .slice lA lL lC] hv2 [h.size] fun v3 hv7 =>
    ∃ ra3 : Int, ∃ (raA : Option Addr) (raL raC : Nat), ∃ rb3 : Int, v3 = .tuple #[.agg #[.int .i64 ra3, .slice raA raL raC], .int .i64 rb3] ∧
    let hv8 : Heap := hset (hset hv7 h.size 0 (.int .i64 ra3)) h.size (0 + 1) (.slice raA raL raC)
    R (.tuple #[.agg #[.int .i64 ra3, .slice raA raL raC], .int .i64 rb3]) hv8)

theorem calls134 {h : Heap} {R : Value → Heap → Prop} (n : Int) (m : Int) (seed : Int) (H : S134 n m seed h R) : CallsH Try.prog 134 #[.int .i64 n, .int .i64 m, .int .u64 seed] h R := by
  have e : S134 n m seed h R = FX (envX [6, 37] 45) { loops := [(0, ⟨[0, 1, 6], [8, 9, 10], [6], []⟩)], joins := [], blocks := [], draws := [] } Try.f134 (Try.f134.body.getD .skip) [.int .i64 n, .int .i64 m, .int .u64 seed] h R := by kernel_rfl
  exact calls_of_FX (envX_ok _ _) Try.func134 (by kernel_rfl) (by kernel_rfl) (by kernel_rfl) (e ▸ H)

/-- tracery/traceryref5.random -/
def Ok134 (n : Int) (m : Int) (seed : Int) (R : Int → List (Int × Int) → Int → Prop) : Prop :=
  ∀ (h : Heap), Hp h [] → CallsH Try.prog 134 #[.int .i64 n, .int .i64 m, .int .u64 seed] h fun v h' => ∃ (nV : Int) (edgesVA : Option Addr) (edgesVL edgesVC : Nat) (edgesV : List (Int × Int)) (rbV : Int), Sy h [] h' [Ck.sl eP 35 edgesVA edgesVL edgesVC edgesV] ∧ v = .tuple #[.agg #[.int .i64 nV, .slice edgesVA edgesVL edgesVC], .int .i64 rbV] ∧ R nV edgesV rbV
theorem Ok134.mono {n m seed} {R R' : Int → List (Int × Int) → Int → Prop} (H : Ok134 n m seed R) (kz : ∀ nV edgesV rbV, R nV edgesV rbV → R' nV edgesV rbV) : Ok134 n m seed R' :=
  fun h  hp => (H h  hp).mono fun _ _ ⟨nV, edgesVA, edgesVL, edgesVC, edgesV, rbV, P, e, q⟩ => ⟨nV, edgesVA, edgesVL, edgesVC, edgesV, rbV, P, e, kz _ _ _ q⟩

def T134 (n : Int) (m : Int) (seed : Int) (R : Int → List (Int × Int) → Int → Prop) : Prop :=
  ∃ (Iv : List (Int × Int) → Int → Int → Prop) (m2 : List (Int × Int) → Int → Int → Nat), Iv ([] : List (Int × Int)) seed 0 ∧
  ∀ l : List (Int × Int), ∀ s : Int, ∀ i : Int, Iv l s i →
  cnd (decide (i < m))
    (Ok199 s n (fun ra rb =>
    Ok199 ra n (fun ra2 rb2 =>
    (l.length + 1) < 1000000000000 ∧ Iv (l ++ [(rb, rb2)]) ra2 (IntKind.i64.wrap (i + (1 : Int))) ∧ m2 (l ++ [(rb, rb2)]) ra2 (IntKind.i64.wrap (i + (1 : Int))) < m2 l s i)))
    (Ok129 n l (fun ra3 ra_2 rb3 =>
    R ra3 ra_2 rb3))

theorem ok134 {n m seed} {R : Int → List (Int × Int) → Int → Prop} (T : T134 n m seed R) : Ok134 n m seed R := by
  intro h  H
  have Y : Sy h [] h _ := Sy.startM H rfl
  apply calls134
  unfold S134
  unfold T134 at T
  intro hv
  have Y : Sy _ _ hv [_] := Y.junk _
  clear_value hv
  have Y : Sy _ _ _ [_, _] := Y.nilS eP 35
  obtain ⟨Iv, m2, T0, T1⟩ := T
  obtain ⟨B, hB, YB⟩ := Y.cut [1] [0] rfl
  obtain ⟨JJ, hJJ⟩ : ∃ JJ : Nat → List Value → Heap → Prop, JJ = (fun k lz h' => ∃ (lA : Option Addr) (lL lC : Nat) (l : List (Int × Int)) (s : Int) (i : Int), lz = [.slice lA lL lC, .int .u64 s, .int .i64 i] ∧ Sy h [] h' ([Ck.sl eP 35 lA lL lC l] ++ B) ∧ Iv l s i ∧ m2 l s i = k) := ⟨_, rfl⟩
  refine ⟨fun lz h' => ∃ k, JJ k lz h', Lm JJ, ?_, ?_⟩
  · subst hJJ hB
    exact ⟨_, _, _, _, _, _, _, rfl, YB, T0, rfl⟩
  · clear YB T0 Y
    intro lA lL lC s i hv2 hI
    obtain ⟨k, hI, hm⟩ := loopIn hI
    subst hJJ hB
    obtain ⟨lA, lL, lC, l, s, i, e, Y, T, rfl⟩ := hI
    cases e
    obtain rfl := Y.lenS 0 rfl
    replace T := T1 l s i T
    have Y : Sy _ _ _ [_, _] := Y
    refine cnd_imp T (fun T => ?_) (fun T => ?_)
    · refine callX_sy (T _ (Hp.nil _)) (fun _ _ ⟨_, _, p, _⟩ => p.fr) (allc (fun h => by cases h) alln) ?_
      rintro v hv3 ⟨ra, rb, PP, rfl, T⟩
      have Y : Sy _ _ hv3 [_, _] := Y.gr PP.fr
      clear PP
      refine ⟨ra, rb, rfl, ?_⟩
      refine callX_sy (T _ (Hp.nil _)) (fun _ _ ⟨_, _, p, _⟩ => p.fr) (allc (fun h => by cases h) alln) ?_
      rintro v2 hv4 ⟨ra2, rb2, PP, rfl, T⟩
      have Y : Sy _ _ hv4 [_, _] := Y.gr PP.fr
      clear PP
      refine ⟨ra2, rb2, rfl, ?_⟩
      intro hv5
      have Y : Sy _ _ hv5 [_, _, _] := Y.junk _
      clear_value hv5
      obtain ⟨q, T⟩ := T
      refine ⟨_, Y.ownS 0 rfl, (allc (Y.nJ 0 2 rfl rfl rfl) (allc (Y.nJ 0 1 rfl rfl rfl) alln)), by first | exact appB q (by decide) | omega, by first | exact appM q | (simp [maxLen]; omega), ?_⟩
      intro sA sC hv6 ow fA gA gB
      have Y : Sy _ _ hv6 [_, _, _] := Y.appS 0 rfl ([(rb, rb2)] : List (Int × Int)) ow fA gA rfl rfl
      exact loopBack hm ⟨_, _, _, _, _, _, rfl, Y.pick [0, 1] rfl, T.1, rfl⟩ T.2
    · refine callX_sy (T _ _ _ _ (Y.pick [0] rfl).hp) (fun _ _ ⟨_, _, _, _, _, _, p, _⟩ => p.fr) (allc (Y.nO 1 [0] rfl rfl) alln) ?_
      rintro v3 hv7 ⟨ra3, raA, raL, raC, ra_2, rb3, PP, rfl, T⟩
      have Y : Sy _ _ hv7 [_, _] := Y.call2 [0, 1] rfl (A := [_]) rfl rfl PP ⟨rfl, trivial⟩
      clear PP
      obtain rfl := Y.lenS 0 rfl
      refine ⟨ra3, _, _, _, rb3, rfl, ?_⟩
      intro hv8
      have Y : Sy _ _ hv8 [_, _] := ((Y.stJ 1 rfl _ _).stJ 1 rfl _ _)
      clear_value hv8
      exact ⟨_, _, _, _, _, _, Y.pick [0] rfl, rfl, T⟩

/-- tracery/traceryref5.stack -/
def S135 (n : Int) (seed : Int) (h : Heap) (R : Value → Heap → Prop) : Prop :=
  let hv : Heap := h.push (.cells #[.int .i64 0, .slice none 0 0] 26)
  cnd (decide (n > (1024 : Int)))
    (let hv2 : Heap := hset (hset hv h.size 0 (.int .i64 0)) h.size (0 + 1) (.slice none 0 0)
    R (.tuple #[.agg #[.int .i64 0, .slice none 0 0], .int .i64 3]) hv2)
    (callX Try.prog 130 #[.slice none 0 0, .int .i64 0, .int .i64 3] hv [h.size] fun v hv3 =>
    ∃ (rA : Option Addr) (rL rC : Nat), v = .slice rA rL rC ∧
    let hv4 : Heap := hv3.push (.cells #[.int .i64 0, .int .i64 1, .int .i64 2, .int .i64 0, .int .i64 2, .int .i64 1] 167)
    ∃ (Iv : List Value → Heap → Prop) (m : List Value → Heap → Nat), Iv [.slice rA rL rC, .slice (some (⟨hv3.size, 0, none⟩ : Addr)) 2 2, .int .u64 seed, .int .i64 3] hv4 ∧ -- loop 0: ['l', 'ts', 's', 'v']
    ∀ (lA : Option Addr) (lL lC : Nat), ∀ (tsA : Option Addr) (tsL tsC : Nat), ∀ s : Int, ∀ v2 : Int, ∀ hv5, Iv [.slice lA lL lC, .slice tsA tsL tsC, .int .u64 s, .int .i64 v2] hv5 →
    cnd (decide (v2 < n))
      (callX Try.prog 199 #[.int .u64 s, .int .i64 ((tsL : Nat) : Int)] hv5 [h.size] fun v3 hv6 =>
      ∃ ra : Int, ∃ rb : Int, v3 = .tuple #[.int .u64 ra, .int .i64 rb] ∧
      ∃ b o, tsA = some ⟨b, o, none⟩ ∧ 0 ≤ rb ∧ rb < (tsL : Nat) ∧ ∃ x : Int, hcell hv6 b (o + (Int.toNat rb) * 3) = some (.int .i64 x) ∧ ∃ x2 : Int, hcell hv6 b ((o + (Int.toNat rb) * 3) + 1) = some (.int .i64 x2) ∧ ∃ x3 : Int, hcell hv6 b (((o + (Int.toNat rb) * 3) + 1) + 1) = some (.int .i64 x3) ∧ let hv7 : Heap := hv6.push (.cells #[.int .i64 0, .int .i64 0, .int .i64 0] 167)
      let hv8 : Heap := hset (hset (hset hv7 hv6.size 0 (.int .i64 x)) hv6.size (0 + 1) (.int .i64 x2)) hv6.size ((0 + 1) + 1) (.int .i64 x3)
      let hv9 : Heap := hv8.push (.cells #[.int .i64 v2, .int .i64 x, .int .i64 v2, .int .i64 x2, .int .i64 v2, .int .i64 x3] 35)
      ∃ old, Own hv9 35 2 lA lL lC old ∧ (∀ b ∈ ([hv8.size, hv6.size, h.size] : List Nat), b ∉ blkOf lA) ∧ (lL + 3) * 16 ≤ 140737488355328 ∧ (lL + 3) ≤ maxLen ∧
      ∀ sA sC hv10, Own hv10 35 2 sA (lL + 3) sC (old ++ [.int .i64 v2, .int .i64 x, .int .i64 v2, .int .i64 x2, .int .i64 v2, .int .i64 x3]) → Fr (blkOf lA) hv9 hv10 → ((sA = lA ∧ sC = lC) ∨ ∃ g, sA = some ⟨g, 0, none⟩ ∧ hv9.size ≤ g) → (lC < (lL + 3) → Fr [] hv9 hv10) →
      ∃ b2 o2, tsA = some ⟨b2, o2, none⟩ ∧ 0 ≤ rb ∧ rb < (tsL : Nat) ∧ b2 ≠ hv8.size ∧ b2 ≠ hv6.size ∧ b2 ≠ h.size ∧ (∃ u, hcell hv10 b2 (o2 + (Int.toNat rb) * 3) = some u) ∧ hfree hv10 b2 (o2 + (Int.toNat rb) * 3) = true ∧ (∃ u, hcell hv10 b2 ((o2 + (Int.toNat rb) * 3) + 1) = some u) ∧ hfree hv10 b2 ((o2 + (Int.toNat rb) * 3) + 1) = true ∧ (∃ u, hcell hv10 b2 (((o2 + (Int.toNat rb) * 3) + 1) + 1) = some u) ∧ hfree hv10 b2 (((o2 + (Int.toNat rb) * 3) + 1) + 1) = true ∧ let hv11 : Heap := hset (hset (hset hv10 b2 (o2 + (Int.toNat rb) * 3) (.int .i64 x)) b2 ((o2 + (Int.toNat rb) * 3) + 1) (.int .i64 x2)) b2 (((o2 + (Int.toNat rb) * 3) + 1) + 1) (.int .i64 v2)
      let hv12 : Heap := hv11.push (.cells #[.int .i64 x2, .int .i64 x3, .int .i64 v2, .int .i64 x3, .int .i64 x, .int .i64 v2] 167)
      ∃ old2, Own hv12 167 3 tsA tsL tsC old2 ∧ (∀ b ∈ ([hv11.size, hv8.size, hv6.size, h.size] : List Nat), b ∉ blkOf tsA) ∧ (tsL + 2) * 24 ≤ 140737488355328 ∧ (tsL + 2) ≤ maxLen ∧
      ∀ sA2 sC2 hv13, Own hv13 167 3 sA2 (tsL + 2) sC2 (old2 ++ [.int .i64 x2, .int .i64 x3, .int .i64 v2, .int .i64 x3, .int .i64 x, .int .i64 v2]) → Fr (blkOf tsA) hv12 hv13 → ((sA2 = tsA ∧ sC2 = tsC) ∨ ∃ g, sA2 = some ⟨g, 0, none⟩ ∧ hv12.size ≤ g) → (tsC < (tsL + 2) → Fr [] hv12 hv13) →
      Iv [.slice sA (lL + 3) sC, .slice sA2 (tsL + 2) sC2, .int .u64 ra, .int .i64 (IntKind.i64.wrap (v2 + (1 : Int)))] hv13 ∧ m [.slice sA (lL + 3) sC, .slice sA2 (tsL + 2) sC2, .int .u64 ra, .int .i64 (IntKind.i64.wrap (v2 + (1 : Int)))] hv13 < m [.slice lA lL lC, .slice tsA tsL tsC, .int .u64 s, .int .i64 v2] hv5)
      (callX Try.prog 129 #[.int .i64 n, .slice lA lL lC] hv5 [h.size] fun v4 hv14 =>
      ∃ ra2 : Int, ∃ (raA : Option Addr) (raL raC : Nat), ∃ rb2 : Int, v4 = .tuple #[.agg #[.int .i64 ra2, .slice raA raL raC], .int .i64 rb2] ∧
      let hv15 : Heap := hset (hset hv14 h.size 0 (.int .i64 ra2)) h.size (0 + 1) (.slice raA raL raC)
      R (.tuple #[.agg #[.int .i64 ra2, .slice raA raL raC], .int .i64 rb2]) hv15))

theorem calls135 {h : Heap} {R : Value → Heap → Prop} (n : Int) (seed : Int) (H : S135 n seed h R) : CallsH Try.prog 135 #[.int .i64 n, .int .u64 seed] h R := by
  have e : S135 n seed h R = FX (envX [4, 12, 51, 75] 82) { loops := [(0, ⟨[0, 4], [6, 7, 8, 9], [4], []⟩)], joins := [], blocks := [], draws := [] } Try.f135 (Try.f135.body.getD .skip) [.int .i64 n, .int .u64 seed] h R := by kernel_rfl
  exact calls_of_FX (envX_ok _ _) Try.func135 (by kernel_rfl) (by kernel_rfl) (by kernel_rfl) (e ▸ H)

/-- tracery/traceryref5.stack -/
def Ok135 (n : Int) (seed : Int) (R : Int → List (Int × Int) → Int → Prop) : Prop :=
  ∀ (h : Heap), Hp h [] → CallsH Try.prog 135 #[.int .i64 n, .int .u64 seed] h fun v h' => ∃ (nV : Int) (edgesVA : Option Addr) (edgesVL edgesVC : Nat) (edgesV : List (Int × Int)) (rbV : Int), Sy h [] h' [Ck.sl eP 35 edgesVA edgesVL edgesVC edgesV] ∧ v = .tuple #[.agg #[.int .i64 nV, .slice edgesVA edgesVL edgesVC], .int .i64 rbV] ∧ R nV edgesV rbV
theorem Ok135.mono {n seed} {R R' : Int → List (Int × Int) → Int → Prop} (H : Ok135 n seed R) (kz : ∀ nV edgesV rbV, R nV edgesV rbV → R' nV edgesV rbV) : Ok135 n seed R' :=
  fun h  hp => (H h  hp).mono fun _ _ ⟨nV, edgesVA, edgesVL, edgesVC, edgesV, rbV, P, e, q⟩ => ⟨nV, edgesVA, edgesVL, edgesVC, edgesV, rbV, P, e, kz _ _ _ q⟩

def T135 (n : Int) (seed : Int) (R : Int → List (Int × Int) → Int → Prop) : Prop :=
  cnd (decide (n > (1024 : Int)))
    (R 0 ([] : List (Int × Int)) 3)
    (Ok130 ([] : List (Int × Int)) 0 3 (fun r =>
    ∃ (Iv : List (Int × Int) → List (Int × Int × Int) → Int → Int → Prop) (m : List (Int × Int) → List (Int × Int × Int) → Int → Int → Nat), Iv r ([(0, 1, 2), (0, 2, 1)] : List (Int × Int × Int)) seed 3 ∧
    ∀ l : List (Int × Int), ∀ ts : List (Int × Int × Int), ∀ s : Int, ∀ v2 : Int, Iv l ts s v2 →
    cnd (decide (v2 < n))
      (Ok199 s ((ts.length : Nat) : Int) (fun ra rb =>
      0 ≤ rb ∧ rb < ((ts.length : Nat) : Int) ∧ ∀ ts_2 : (Int × Int × Int), ts[(Int.toNat rb)]? = some ts_2 → (l.length + 3) < 1000000000000 ∧ (ts.length + 2) < 1000000000000 ∧ Iv (l ++ [(v2, ts_2.1), (v2, ts_2.2.1), (v2, ts_2.2.2)]) ((ts.set (Int.toNat rb) (ts_2.1, ts_2.2.1, v2)) ++ [(ts_2.2.1, ts_2.2.2, v2), (ts_2.2.2, ts_2.1, v2)]) ra (IntKind.i64.wrap (v2 + (1 : Int))) ∧ m (l ++ [(v2, ts_2.1), (v2, ts_2.2.1), (v2, ts_2.2.2)]) ((ts.set (Int.toNat rb) (ts_2.1, ts_2.2.1, v2)) ++ [(ts_2.2.1, ts_2.2.2, v2), (ts_2.2.2, ts_2.1, v2)]) ra (IntKind.i64.wrap (v2 + (1 : Int))) < m l ts s v2))
      (Ok129 n l (fun ra2 ra_2 rb2 =>
      R ra2 ra_2 rb2))))

theorem ok135 {n seed} {R : Int → List (Int × Int) → Int → Prop} (T : T135 n seed R) : Ok135 n seed R := by
  intro h  H
  have Y : Sy h [] h _ := Sy.startM H rfl
  apply calls135
  unfold S135
  unfold T135 at T
  intro hv
  have Y : Sy _ _ hv [_] := Y.junk _
  clear_value hv
  refine cnd_imp T (fun T => ?_) (fun T => ?_)
  · intro hv2
    have Y : Sy _ _ hv2 [_] := ((Y.stJ 0 rfl _ _).stJ 0 rfl _ _)
    clear_value hv2
    have Y : Sy _ _ _ [_, _] := Y.nilS eP 35
    exact ⟨_, _, _, _, _, _, Y.pick [1] rfl, rfl, T⟩
  · have Y : Sy _ _ _ [_, _] := Y.nilS eP 35
    refine callX_sy (T _ _ _ _ (Y.pick [1] rfl).hp) (fun _ _ ⟨_, _, _, _, p, _⟩ => p.fr) (allc (Y.nO 0 [1] rfl rfl) alln) ?_
    rintro v hv3 ⟨rA, rL, rC, r, PP, rfl, T⟩
    have Y : Sy _ _ hv3 [_, _] := Y.call2 [1, 0] rfl (A := [_]) rfl rfl PP ⟨rfl, trivial⟩
    clear PP
    obtain rfl := Y.lenS 0 rfl
    refine ⟨_, _, _, rfl, ?_⟩
    intro hv4
    have Y : Sy _ _ hv4 [_, _, _] := Y.litS (E := e3) (ty := 167) ([(0, 1, 2), (0, 2, 1)] : List (Int × Int × Int)) rfl (by simp [maxLen])
    clear_value hv4
    obtain ⟨Iv, m, T0, T1⟩ := T
    obtain ⟨B, hB, YB⟩ := Y.cut [0, 2] [1] rfl
    obtain ⟨JJ, hJJ⟩ : ∃ JJ : Nat → List Value → Heap → Prop, JJ = (fun k lz h' => ∃ (lA : Option Addr) (lL lC : Nat) (l : List (Int × Int)) (tsA : Option Addr) (tsL tsC : Nat) (ts : List (Int × Int × Int)) (s : Int) (v2 : Int), lz = [.slice lA lL lC, .slice tsA tsL tsC, .int .u64 s, .int .i64 v2] ∧ Sy h [] h' ([Ck.sl eP 35 lA lL lC l, Ck.sl e3 167 tsA tsL tsC ts] ++ B) ∧ Iv l ts s v2 ∧ m l ts s v2 = k) := ⟨_, rfl⟩
    refine ⟨fun lz h' => ∃ k, JJ k lz h', Lm JJ, ?_, ?_⟩
    · subst hJJ hB
      exact ⟨_, _, _, _, _, _, _, _, _, _, _, rfl, YB, T0, rfl⟩
    · clear YB T0 Y
      intro lA lL lC tsA tsL tsC s v2 hv5 hI
      obtain ⟨k, hI, hm⟩ := loopIn hI
      subst hJJ hB
      obtain ⟨lA, lL, lC, l, tsA, tsL, tsC, ts, s, v2, e, Y, T, rfl⟩ := hI
      cases e
      obtain rfl := Y.lenS 0 rfl
      obtain rfl := Y.lenS 1 rfl
      replace T := T1 l ts s v2 T
      have Y : Sy _ _ _ [_, _, _] := Y
      refine cnd_imp T (fun T => ?_) (fun T => ?_)
      · refine callX_sy (T _ (Hp.nil _)) (fun _ _ ⟨_, _, p, _⟩ => p.fr) (allc (fun h => by cases h) alln) ?_
        rintro v3 hv6 ⟨ra, rb, PP, rfl, T⟩
        have Y : Sy _ _ hv6 [_, _, _] := Y.gr PP.fr
        clear PP
        refine ⟨ra, rb, rfl, ?_⟩
        obtain ⟨q, q_2, T⟩ := T
        obtain ⟨b_2, hb, ho, ts_2, hx⟩ := Y.atS 1 rfl q q_2
        refine ⟨b_2, 0, hb, q, q_2, ?_⟩
        replace T := T ts_2 hx
        refine ⟨_, Y.cellS 1 rfl hb (t := 0) hx rfl, ?_⟩
        refine ⟨_, Y.cellS 1 rfl hb (t := 1) hx rfl, ?_⟩
        refine ⟨_, Y.cellS 1 rfl hb (t := 2) hx rfl, ?_⟩
        intro hv7
        have Y : Sy _ _ hv7 [_, _, _, _] := Y.junk _
        clear_value hv7
        intro hv8
        have Y : Sy _ _ hv8 [_, _, _, _] := (((Y.stJ 3 rfl _ _).stJ 3 rfl _ _).stJ 3 rfl _ _)
        clear_value hv8
        intro hv9
        have Y : Sy _ _ hv9 [_, _, _, _, _] := Y.junk _
        clear_value hv9
        obtain ⟨q_3, T⟩ := T
        refine ⟨_, Y.ownS 0 rfl, (allc (Y.nJ 0 4 rfl rfl rfl) (allc (Y.nJ 0 3 rfl rfl rfl) (allc (Y.nJ 0 2 rfl rfl rfl) alln))), by first | exact appB q_3 (by decide) | omega, by first | exact appM q_3 | (simp [maxLen]; omega), ?_⟩
        intro sA sC hv10 ow fA gA gB
        have Y : Sy _ _ hv10 [_, _, _, _, _] := Y.appS 0 rfl ([(v2, ts_2.1), (v2, ts_2.2.1), (v2, ts_2.2.2)] : List (Int × Int)) ow fA gA rfl rfl
        refine ⟨b_2, 0, hb, q, q_2, ?_⟩
        refine ⟨(Y.neJ 1 4 rfl rfl rfl ho), (Y.neJ 1 3 rfl rfl rfl ho), (Y.neJ 1 2 rfl rfl rfl ho), Y.cellEx 1 rfl hb (t := 0) (by omega) (by decide), Y.freeS 1 rfl hb _, Y.cellEx 1 rfl hb (t := 1) (by omega) (by decide), Y.freeS 1 rfl hb _, Y.cellEx 1 rfl hb (t := 2) (by omega) (by decide), Y.freeS 1 rfl hb _, ?_⟩
        intro hv11
        have Y : Sy _ _ hv11 [_, _, _, _, _] := Y.st3 1 rfl hb (ts_2.1, ts_2.2.1, v2) hx rfl (fun y => ⟨(ts_2.1, y.2.1, y.2.2), rfl⟩) (fun y => ⟨(y.1, ts_2.2.1, y.2.2), rfl⟩) rfl
        clear_value hv11
        intro hv12
        have Y : Sy _ _ hv12 [_, _, _, _, _, _] := Y.junk _
        clear_value hv12
        obtain ⟨q_4, T⟩ := T
        refine ⟨_, Y.ownS 1 rfl, (allc (Y.nJ 1 5 rfl rfl rfl) (allc (Y.nJ 1 4 rfl rfl rfl) (allc (Y.nJ 1 3 rfl rfl rfl) (allc (Y.nJ 1 2 rfl rfl rfl) alln)))), by first | exact appB q_4 (by decide) | omega, by first | exact appM q_4 | (simp [maxLen]; omega), ?_⟩
        intro sA2 sC2 hv13 ow fA gA gB
        have Y : Sy _ _ hv13 [_, _, _, _, _, _] := Y.appS 1 rfl ([(ts_2.2.1, ts_2.2.2, v2), (ts_2.2.2, ts_2.1, v2)] : List (Int × Int × Int)) ow fA gA rfl rfl
        exact loopBack hm ⟨_, _, _, _, _, _, _, _, _, _, rfl, Y.pick [0, 1, 2] rfl, T.1, rfl⟩ T.2
      · refine callX_sy (T _ _ _ _ (Y.pick [0] rfl).hp) (fun _ _ ⟨_, _, _, _, _, _, p, _⟩ => p.fr) (allc (Y.nO 2 [0] rfl rfl) alln) ?_
        rintro v4 hv14 ⟨ra2, raA, raL, raC, ra_2, rb2, PP, rfl, T⟩
        have Y : Sy _ _ hv14 [_, _, _] := Y.call2 [0, 1, 2] rfl (A := [_]) rfl rfl PP ⟨rfl, trivial⟩
        clear PP
        obtain rfl := Y.lenS 0 rfl
        refine ⟨ra2, _, _, _, rb2, rfl, ?_⟩
        intro hv15
        have Y : Sy _ _ hv15 [_, _, _] := ((Y.stJ 2 rfl _ _).stJ 2 rfl _ _)
        clear_value hv15
        exact ⟨_, _, _, _, _, _, Y.pick [0] rfl, rfl, T⟩

/-- tracery/tracerylaw5.names -/
def S37  (h : Heap) (R : Value → Heap → Prop) : Prop :=
  let hv : Heap := h.push (.cells #[.string (⟨#[112, 97, 116, 104]⟩ : ByteArray), .string (⟨#[99, 121, 99, 108, 101]⟩ : ByteArray), .string (⟨#[99, 111, 109, 112, 108, 101, 116, 101]⟩ : ByteArray), .string (⟨#[116, 119, 111]⟩ : ByteArray), .string (⟨#[103, 114, 105, 100]⟩ : ByteArray), .string (⟨#[119, 104, 101, 101, 108]⟩ : ByteArray), .string (⟨#[112, 114, 105, 115, 109]⟩ : ByteArray), .string (⟨#[98, 111, 110, 100]⟩ : ByteArray), .string (⟨#[114, 97, 110, 100, 111, 109]⟩ : ByteArray), .string (⟨#[115, 116, 97, 99, 107]⟩ : ByteArray)] 9)
  R (.slice (some (⟨h.size, 0, none⟩ : Addr)) 10 10) hv

theorem calls37 {h : Heap} {R : Value → Heap → Prop}  (H : S37  h R) : CallsH Try.prog 37 #[] h R := by
  have e : S37  h R = FX (envX [] 2) { loops := [], joins := [], blocks := [], draws := [] } Try.f37 (Try.f37.body.getD .skip) [] h R := by kernel_rfl
  exact calls_of_FX (envX_ok _ _) Try.func37 (by kernel_rfl) (by kernel_rfl) (by kernel_rfl) (e ▸ H)

/-- tracery/tracerylaw5.names -/
def Ok37  (R : List ByteArray → Prop) : Prop :=
  ∀ (h : Heap), Hp h [] → CallsH Try.prog 37 #[] h fun v h' => ∃ (rVA : Option Addr) (rVL rVC : Nat) (rV : List ByteArray), Sy h [] h' [Ck.sl eS 9 rVA rVL rVC rV] ∧ v = .slice rVA rVL rVC ∧ R rV
theorem Ok37.mono {R R' : List ByteArray → Prop} (H : Ok37  R) (kz : ∀ rV, R rV → R' rV) : Ok37  R' :=
  fun h  hp => (H h  hp).mono fun _ _ ⟨rVA, rVL, rVC, rV, P, e, q⟩ => ⟨rVA, rVL, rVC, rV, P, e, kz _ q⟩

def T37  (R : List ByteArray → Prop) : Prop :=
  R ([(⟨#[112, 97, 116, 104]⟩ : ByteArray), (⟨#[99, 121, 99, 108, 101]⟩ : ByteArray), (⟨#[99, 111, 109, 112, 108, 101, 116, 101]⟩ : ByteArray), (⟨#[116, 119, 111]⟩ : ByteArray), (⟨#[103, 114, 105, 100]⟩ : ByteArray), (⟨#[119, 104, 101, 101, 108]⟩ : ByteArray), (⟨#[112, 114, 105, 115, 109]⟩ : ByteArray), (⟨#[98, 111, 110, 100]⟩ : ByteArray), (⟨#[114, 97, 110, 100, 111, 109]⟩ : ByteArray), (⟨#[115, 116, 97, 99, 107]⟩ : ByteArray)] : List ByteArray)

theorem ok37 {R : List ByteArray → Prop} (T : T37  R) : Ok37  R := by
  intro h  H
  have Y : Sy h [] h _ := Sy.startM H rfl
  apply calls37
  unfold S37
  unfold T37 at T
  intro hv
  have Y : Sy _ _ hv [_] := Y.litS (E := eS) (ty := 9) ([(⟨#[112, 97, 116, 104]⟩ : ByteArray), (⟨#[99, 121, 99, 108, 101]⟩ : ByteArray), (⟨#[99, 111, 109, 112, 108, 101, 116, 101]⟩ : ByteArray), (⟨#[116, 119, 111]⟩ : ByteArray), (⟨#[103, 114, 105, 100]⟩ : ByteArray), (⟨#[119, 104, 101, 101, 108]⟩ : ByteArray), (⟨#[112, 114, 105, 115, 109]⟩ : ByteArray), (⟨#[98, 111, 110, 100]⟩ : ByteArray), (⟨#[114, 97, 110, 100, 111, 109]⟩ : ByteArray), (⟨#[115, 116, 97, 99, 107]⟩ : ByteArray)] : List ByteArray) rfl (by simp [maxLen])
  clear_value hv
  exact ⟨_, _, _, _, Y.pick [0] rfl, rfl, T⟩

end Go.Proofs.Ytmcloipjlihhlaa.N
