/- Functions: what is left to be shown of each, over memory and without: printed by program, tied to the loaded functions by the kernel. Conditions: none. -/
import Derived.Test.YtmcloipjlihhlaaSEnv
import Derived.Test.YtmcloipjlihhlaaYMore
import Derived.Test.YtmcloipjlihhlaaTMay
namespace Go.Proofs.Ytmcloipjlihhlaa.N
open Go.Proofs.Ytmcloipjlihhlaa
open Go.X
set_option maxRecDepth 100000
set_option linter.unusedVariables false
set_option linter.unusedSimpArgs false
set_option maxHeartbeats 2000000

/-- tracery/weigh.Clean -/
def S147 (x : Nat) (h : Heap) (R : Value → Heap → Prop) : Prop :=
  cnd ((FloatKind.f64).format.order x x != some .eq)
    (callE Try.prog 45 #[.int .u64 9221120237041090561] fun v =>
    ∃ r : Nat, v = .float .f64 r ∧
    R (.float .f64 r) h)
    (cnd ((FloatKind.f64).format.order x 0 == some .eq)
      (R (.float .f64 0) h)
      (R (.float .f64 x) h))

theorem calls147 {h : Heap} {R : Value → Heap → Prop} (x : Nat) (H : S147 x h R) : CallsH Try.prog 147 #[.float .f64 x] h R := by
  have e : S147 x h R = FX (envX [] 10) { loops := [], joins := [], blocks := [], draws := [] } Try.f147 (Try.f147.body.getD .skip) [.float .f64 x] h R := by kernel_rfl
  exact calls_of_FX (envX_ok _ _) Try.func147 (by kernel_rfl) (by kernel_rfl) (by kernel_rfl) (e ▸ H)

/-- tracery/weigh.Clean -/
def Ok147 (x : Nat) (R : Nat → Prop) : Prop :=
  ∀ (h : Heap), Hp h [] → CallsH Try.prog 147 #[.float .f64 x] h fun v h' => ∃ (rV : Nat), Sy h [] h' [] ∧ v = .float .f64 rV ∧ R rV
theorem Ok147.mono {x} {R R' : Nat → Prop} (H : Ok147 x R) (kz : ∀ rV, R rV → R' rV) : Ok147 x R' :=
  fun h  hp => (H h  hp).mono fun _ _ ⟨rV, P, e, q⟩ => ⟨rV, P, e, kz _ q⟩

def T147 (x : Nat) (R : Nat → Prop) : Prop :=
  cnd ((FloatKind.f64).format.order x x != some .eq)
    (callE Try.prog 45 #[.int .u64 9221120237041090561] fun v =>
    ∃ r : Nat, v = .float .f64 r ∧
    R r)
    (cnd ((FloatKind.f64).format.order x 0 == some .eq)
      (R 0)
      (R x))

theorem ok147 {x} {R : Nat → Prop} (T : T147 x R) : Ok147 x R := by
  intro h  H
  have Y : Sy h [] h _ := Sy.startM H rfl
  apply calls147
  unfold S147
  unfold T147 at T
  refine cnd_imp T (fun T => ?_) (fun T => ?_)
  · obtain ⟨Rx, hx, T⟩ := T
    refine ⟨Rx, hx, fun v hv => ?_⟩
    obtain ⟨r, rfl, T⟩ := T v hv
    refine ⟨r, rfl, ?_⟩
    exact ⟨_, Y.pick [] rfl, rfl, T⟩
  · refine cnd_imp T (fun T => ?_) (fun T => ?_)
    · exact ⟨_, Y.pick [] rfl, rfl, T⟩
    · exact ⟨_, Y.pick [] rfl, rfl, T⟩

/-- tracery/tutte.midst -/
def S142 (g : Int) (gA : Option Addr) (gL gC : Nat) (atA : Option Addr) (atL atC : Nat) (hsA : Option Addr) (hsL hsC : Nat) (h : Heap) (R : Value → Heap → Prop) : Prop :=
  let hv : Heap := h.push (.cells #[.int .i64 g, .slice gA gL gC] 26)
  let hv2 : Heap := hv.push (.cells #[.float .f64 0, .float .f64 0] 56)
  let hv3 : Heap := hv2.push (.cells #[.float .f64 0, .float .f64 0] 56)
  ∃ (Iv : List Value → Heap → Prop) (m : List Value → Heap → Nat), Iv [.int .i64 0, .float .f64 0, .float .f64 0] hv3 ∧ -- loop 0: ['14']
  ∀ x : Int, ∀ c0 : Nat, ∀ c1 : Nat, ∀ hv4, Iv [.int .i64 x, .float .f64 c0, .float .f64 c1] hv4 →
  cnd (decide (x < ((hsL : Nat) : Int)))
    (∃ b o, hsA = some ⟨b, o, none⟩ ∧ 0 ≤ x ∧ x < (hsL : Nat) ∧ ∃ x2 : Int, hcell hv4 b (o + (Int.toNat x) * 1) = some (.int .i64 x2) ∧ (2 : Int) ≠ 0 ∧ (2 : Int) ≠ 0 ∧ ∃ b2 o2, gA = some ⟨b2, o2, none⟩ ∧ 0 ≤ (IntKind.i64.wrap (Int.tdiv x2 (2 : Int))) ∧ (IntKind.i64.wrap (Int.tdiv x2 (2 : Int))) < (gL : Nat) ∧ 0 ≤ (IntKind.i64.wrap ((1 : Int) - (Int.tmod x2 (2 : Int)))) ∧ (IntKind.i64.wrap ((1 : Int) - (Int.tmod x2 (2 : Int)))) < ((2 : Nat) : Int) ∧ ∃ x3 : Int, hcell hv4 b2 ((o2 + (Int.toNat (IntKind.i64.wrap (Int.tdiv x2 (2 : Int)))) * 2) + (Int.toNat (IntKind.i64.wrap ((1 : Int) - (Int.tmod x2 (2 : Int))))) * 1) = some (.int .i64 x3) ∧ ∃ b3 o3, atA = some ⟨b3, o3, none⟩ ∧ 0 ≤ x3 ∧ x3 < (atL : Nat) ∧ ∃ x4 : Nat, hcell hv4 b3 (o3 + (Int.toNat x3) * 2) = some (.float .f64 x4) ∧ ∃ x5 : Nat, hcell hv4 b3 ((o3 + (Int.toNat x3) * 2) + 1) = some (.float .f64 x5) ∧ let hv5 : Heap := hv4.push (.cells #[.float .f64 0, .float .f64 0] 56)
    let hv6 : Heap := hset (hset hv5 hv4.size 0 (.float .f64 x4)) hv4.size (0 + 1) (.float .f64 x5)
    ∃ Jv : List Value → Heap → Prop, -- join 33 []
    ( cnd (x == (0 : Int))
       (let hv7 : Heap := hset (hset hv6 hv2.size 0 (.float .f64 x4)) hv2.size (0 + 1) (.float .f64 x5)
       Jv [.float .f64 x4, .float .f64 x5] hv7)
       (∀ r, FRes .f64 c0 x4 ((FloatKind.f64).format.add c0 x4) r → let hv8 : Heap := hset hv6 hv2.size 0 (.float .f64 r)
       ∀ r2, FRes .f64 c1 x5 ((FloatKind.f64).format.add c1 x5) r2 → let hv9 : Heap := hset hv8 hv2.size 1 (.float .f64 r2)
       Jv [.float .f64 r, .float .f64 r2] hv9)) ∧
    ∀ c0_2 : Nat, ∀ c1_2 : Nat, ∀ hv10, Jv [.float .f64 c0_2, .float .f64 c1_2] hv10 →
    Iv [.int .i64 (IntKind.i64.wrap (x + (1 : Int))), .float .f64 c0_2, .float .f64 c1_2] hv10 ∧ m [.int .i64 (IntKind.i64.wrap (x + (1 : Int))), .float .f64 c0_2, .float .f64 c1_2] hv10 < m [.int .i64 x, .float .f64 c0, .float .f64 c1] hv4)
    (let K := fun (x6 : Nat) (x7 : Nat) (hv17 : Heap) =>
      (let hv18 : Heap := hset (hset hv17 hv.size 0 (.float .f64 x6)) hv.size (0 + 1) (.float .f64 x7)
      R (.agg #[.float .f64 x6, .float .f64 x7]) hv18)
    (∀ r3, FRes .f64 c0 ((FloatKind.f64).nearest ((hsL : Nat) : Int)) ((FloatKind.f64).format.div c0 ((FloatKind.f64).nearest ((hsL : Nat) : Int))) r3 → Fr [] hv4 hv4 ∧
    (callX Try.prog 147 #[.float .f64 r3] hv4 [hv2.size, h.size, hv.size] fun v hv11 =>
    ∃ r4 : Nat, v = .float .f64 r4 ∧
    Fr [] hv4 hv11 ∧
    ∀ r5, FRes .f64 c1 ((FloatKind.f64).nearest ((hsL : Nat) : Int)) ((FloatKind.f64).format.div c1 ((FloatKind.f64).nearest ((hsL : Nat) : Int))) r5 → Fr [] hv4 hv11 ∧
    callX Try.prog 147 #[.float .f64 r5] hv11 [hv2.size, h.size, hv.size] fun v2 hv12 =>
    ∃ r6 : Nat, v2 = .float .f64 r6 ∧
    Fr [] hv4 hv12 ∧
    K r4 r6 hv12)
    ∧ ( ∀ r7, FRes .f64 c1 ((FloatKind.f64).nearest ((hsL : Nat) : Int)) ((FloatKind.f64).format.div c1 ((FloatKind.f64).nearest ((hsL : Nat) : Int))) r7 → Fr [] hv4 hv4 ∧
     callX Try.prog 147 #[.float .f64 r3] hv4 [hv2.size, h.size, hv.size] fun v3 hv13 =>
     ∃ r8 : Nat, v3 = .float .f64 r8 ∧
     Fr [] hv4 hv13 ∧
     callX Try.prog 147 #[.float .f64 r7] hv13 [hv2.size, h.size, hv.size] fun v4 hv14 =>
     ∃ r9 : Nat, v4 = .float .f64 r9 ∧
     Fr [] hv4 hv14 ∧
     K r8 r9 hv14))
    ∧ ( ∀ r10, FRes .f64 c1 ((FloatKind.f64).nearest ((hsL : Nat) : Int)) ((FloatKind.f64).format.div c1 ((FloatKind.f64).nearest ((hsL : Nat) : Int))) r10 → Fr [] hv4 hv4 ∧
     ∀ r11, FRes .f64 c0 ((FloatKind.f64).nearest ((hsL : Nat) : Int)) ((FloatKind.f64).format.div c0 ((FloatKind.f64).nearest ((hsL : Nat) : Int))) r11 → Fr [] hv4 hv4 ∧
     callX Try.prog 147 #[.float .f64 r11] hv4 [hv2.size, h.size, hv.size] fun v5 hv15 =>
     ∃ r12 : Nat, v5 = .float .f64 r12 ∧
     Fr [] hv4 hv15 ∧
     callX Try.prog 147 #[.float .f64 r10] hv15 [hv2.size, h.size, hv.size] fun v6 hv16 =>
     ∃ r13 : Nat, v6 = .float .f64 r13 ∧
     Fr [] hv4 hv16 ∧
     K r12 r13 hv16))

theorem calls142 {h : Heap} {R : Value → Heap → Prop} (g : Int) (gA : Option Addr) (gL gC : Nat) (atA : Option Addr) (atL atC : Nat) (hsA : Option Addr) (hsL hsC : Nat) (H : S142 g gA gL gC atA atL atC hsA hsL hsC h R) : CallsH Try.prog 142 #[.agg #[.int .i64 g, .slice gA gL gC], .slice atA atL atC, .slice hsA hsL hsC] h R := by
  have e : S142 g gA gL gC atA atL atC hsA hsL hsC h R = FX (envX [3, 6, 7, 10] 62) { loops := [(0, ⟨[1, 2, 3, 6, 7, 12, 13], [14], [3, 6], [7]⟩)], joins := [(33, ⟨[1, 2, 3, 6, 7, 12, 13, 14], [], [3, 6], [7]⟩)], blocks := [], draws := [(12, ⟨11, false⟩)] } Try.f142 (Try.f142.body.getD .skip) [.agg #[.int .i64 g, .slice gA gL gC], .slice atA atL atC, .slice hsA hsL hsC] h R := by kernel_rfl
  exact calls_of_FX (envX_ok _ _) Try.func142 (by kernel_rfl) (by kernel_rfl) (by kernel_rfl) (e ▸ H)

/-- tracery/tutte.midst -/
def Ok142 (g : Int) (edgesV : List (Int × Int)) (atV : List (Nat × Nat)) (hsV : List Int) (R : Nat → Nat → Prop) : Prop :=
  ∀ (h : Heap) (gA : Option Addr) (gL gC : Nat) (atA : Option Addr) (atL atC : Nat) (hsA : Option Addr) (hsL hsC : Nat), Hp h [Ck.vw eP gA gL gC edgesV, Ck.vw eFF atA atL atC atV, Ck.vw eI hsA hsL hsC hsV] → CallsH Try.prog 142 #[.agg #[.int .i64 g, .slice gA gL gC], .slice atA atL atC, .slice hsA hsL hsC] h fun v h' => ∃ (xV : Nat) (yV : Nat), Sy h [] h' [] ∧ v = .agg #[.float .f64 xV, .float .f64 yV] ∧ R xV yV
theorem Ok142.mono {g edgesV atV hsV} {R R' : Nat → Nat → Prop} (H : Ok142 g edgesV atV hsV R) (kz : ∀ xV yV, R xV yV → R' xV yV) : Ok142 g edgesV atV hsV R' :=
  fun h gA gL gC atA atL atC hsA hsL hsC hp => (H h gA gL gC atA atL atC hsA hsL hsC hp).mono fun _ _ ⟨xV, yV, P, e, q⟩ => ⟨xV, yV, P, e, kz _ _ q⟩

def T142 (g : Int) (edgesV : List (Int × Int)) (atV : List (Nat × Nat)) (hsV : List Int) (R : Nat → Nat → Prop) : Prop :=
  ∃ (Iv : Int → Nat → Nat → Prop) (m : Int → Nat → Nat → Nat), Iv 0 0 0 ∧
  ∀ x : Int, ∀ c0 : Nat, ∀ c1 : Nat, Iv x c0 c1 →
  cnd (decide (x < ((hsV.length : Nat) : Int)))
    (0 ≤ x ∧ x < ((hsV.length : Nat) : Int) ∧ ∀ hs : Int, hsV[(Int.toNat x)]? = some hs → (2 : Int) ≠ 0 ∧ (2 : Int) ≠ 0 ∧ 0 ≤ (IntKind.i64.wrap (Int.tdiv hs (2 : Int))) ∧ (IntKind.i64.wrap (Int.tdiv hs (2 : Int))) < ((edgesV.length : Nat) : Int) ∧ 0 ≤ (IntKind.i64.wrap ((1 : Int) - (Int.tmod hs (2 : Int)))) ∧ (IntKind.i64.wrap ((1 : Int) - (Int.tmod hs (2 : Int)))) < ((2 : Nat) : Int) ∧ ∀ g_2 : (Int × Int), edgesV[(Int.toNat (IntKind.i64.wrap (Int.tdiv hs (2 : Int))))]? = some g_2 → 0 ≤ (nth2 g_2 (IntKind.i64.wrap ((1 : Int) - (Int.tmod hs (2 : Int))))) ∧ (nth2 g_2 (IntKind.i64.wrap ((1 : Int) - (Int.tmod hs (2 : Int))))) < ((atV.length : Nat) : Int) ∧ ∀ atv : (Nat × Nat), atV[(Int.toNat (nth2 g_2 (IntKind.i64.wrap ((1 : Int) - (Int.tmod hs (2 : Int))))))]? = some atv → ∃ Jv : Nat → Nat → Prop,
    ( cnd (x == (0 : Int))
       (Jv atv.1 atv.2)
       (∀ r : Nat, FRes .f64 c0 atv.1 ((FloatKind.f64).format.add c0 atv.1) r → ∀ r2 : Nat, FRes .f64 c1 atv.2 ((FloatKind.f64).format.add c1 atv.2) r2 → Jv r r2)) ∧
    ∀ c0_2 : Nat, ∀ c1_2 : Nat, Jv c0_2 c1_2 →
    Iv (IntKind.i64.wrap (x + (1 : Int))) c0_2 c1_2 ∧ m (IntKind.i64.wrap (x + (1 : Int))) c0_2 c1_2 < m x c0 c1)
    (∃ Jv_2 : Nat → Nat → Prop,
    ( (∀ r3 : Nat, FRes .f64 c0 ((FloatKind.f64).nearest ((hsV.length : Nat) : Int)) ((FloatKind.f64).format.div c0 ((FloatKind.f64).nearest ((hsV.length : Nat) : Int))) r3 → (Ok147 r3 (fun r4 =>
     ∀ r5 : Nat, FRes .f64 c1 ((FloatKind.f64).nearest ((hsV.length : Nat) : Int)) ((FloatKind.f64).format.div c1 ((FloatKind.f64).nearest ((hsV.length : Nat) : Int))) r5 → Ok147 r5 (fun r6 =>
     Jv_2 r4 r6))) ∧ (∀ r7 : Nat, FRes .f64 c1 ((FloatKind.f64).nearest ((hsV.length : Nat) : Int)) ((FloatKind.f64).format.div c1 ((FloatKind.f64).nearest ((hsV.length : Nat) : Int))) r7 → Ok147 r3 (fun r8 =>
     Ok147 r7 (fun r9 =>
     Jv_2 r8 r9)))) ∧ (∀ r10 : Nat, FRes .f64 c1 ((FloatKind.f64).nearest ((hsV.length : Nat) : Int)) ((FloatKind.f64).format.div c1 ((FloatKind.f64).nearest ((hsV.length : Nat) : Int))) r10 → ∀ r11 : Nat, FRes .f64 c0 ((FloatKind.f64).nearest ((hsV.length : Nat) : Int)) ((FloatKind.f64).format.div c0 ((FloatKind.f64).nearest ((hsV.length : Nat) : Int))) r11 → Ok147 r11 (fun r12 =>
     Ok147 r10 (fun r13 =>
     Jv_2 r12 r13)))) ∧
    ∀ x6 : Nat, ∀ x7 : Nat, Jv_2 x6 x7 →
    R x6 x7)

theorem ok142 {g edgesV atV hsV} {R : Nat → Nat → Prop} (T : T142 g edgesV atV hsV R) : Ok142 g edgesV atV hsV R := by
  intro h gA gL gC atA atL atC hsA hsL hsC H
  have Y : Sy h [] h _ := Sy.startM H rfl
  obtain rfl := Y.lenV 0 rfl
  obtain rfl := Y.lenV 1 rfl
  obtain rfl := Y.lenV 2 rfl
  apply calls142
  unfold S142
  unfold T142 at T
  intro hv
  have Y : Sy _ _ hv [_, _, _, _] := Y.junk _
  clear_value hv
  intro hv2
  have Y : Sy _ _ hv2 [_, _, _, _, _] := Y.junk _
  clear_value hv2
  intro hv3
  have Y : Sy _ _ hv3 [_, _, _, _, _, _] := Y.junk _
  clear_value hv3
  obtain ⟨Iv, m, T0, T1⟩ := T
  obtain ⟨B, hB, YB⟩ := Y.cut [] [0, 1, 2, 3, 4, 5] rfl
  obtain ⟨JJ, hJJ⟩ : ∃ JJ : Nat → List Value → Heap → Prop, JJ = (fun k lz h' => ∃ (x : Int) (c0 : Nat) (c1 : Nat), lz = [.int .i64 x, .float .f64 c0, .float .f64 c1] ∧ Sy h [] h' ([] ++ B) ∧ Iv x c0 c1 ∧ m x c0 c1 = k) := ⟨_, rfl⟩
  refine ⟨fun lz h' => ∃ k, JJ k lz h', Lm JJ, ?_, ?_⟩
  · subst hJJ hB
    exact ⟨_, _, _, _, rfl, YB, T0, rfl⟩
  · clear YB T0 Y
    intro x c0 c1 hv4 hI
    obtain ⟨k, hI, hm⟩ := loopIn hI
    subst hJJ hB
    obtain ⟨x, c0, c1, e, Y, T, rfl⟩ := hI
    cases e
    replace T := T1 x c0 c1 T
    have Y : Sy _ _ _ [_, _, _, _, _, _] := Y
    refine cnd_imp T (fun T => ?_) (fun T => ?_)
    · obtain ⟨q, q_2, T⟩ := T
      obtain ⟨b_2, o_2, hb, hr, hs, hx⟩ := Y.atV 2 rfl q q_2
      refine ⟨b_2, o_2, hb, q, q_2, ?_⟩
      replace T := T hs hx
      refine ⟨_, Y.cellV 2 rfl hb (t := 0) hx rfl, ?_⟩
      obtain ⟨q_10, T⟩ := T
      refine ⟨q_10, ?_⟩
      obtain ⟨q_9, T⟩ := T
      refine ⟨q_9, ?_⟩
      obtain ⟨q_3, q_4, T⟩ := T
      obtain ⟨b_3, o_3, hb_2, hr_2, g_2, hx_2⟩ := Y.atV 0 rfl q_3 q_4
      refine ⟨b_3, o_3, hb_2, q_3, q_4, ?_⟩
      obtain ⟨q_7, q_8, T⟩ := T
      refine ⟨q_7, q_8, ?_⟩
      replace T := T g_2 hx_2
      refine ⟨_, nth2_cell (Y.cellV 0 rfl hb_2 (t := 0) hx_2 rfl) (Y.cellV 0 rfl hb_2 (t := 1) hx_2 rfl) (by assumption) (by assumption), ?_⟩
      obtain ⟨q_5, q_6, T⟩ := T
      obtain ⟨b_4, o_4, hb_3, hr_3, atv, hx_3⟩ := Y.atV 1 rfl q_5 q_6
      refine ⟨b_4, o_4, hb_3, q_5, q_6, ?_⟩
      replace T := T atv hx_3
      refine ⟨_, Y.cellV 1 rfl hb_3 (t := 0) hx_3 rfl, ?_⟩
      refine ⟨_, Y.cellV 1 rfl hb_3 (t := 1) hx_3 rfl, ?_⟩
      intro hv5
      have Y : Sy _ _ hv5 [_, _, _, _, _, _, _] := Y.junk _
      clear_value hv5
      intro hv6
      have Y : Sy _ _ hv6 [_, _, _, _, _, _, _] := ((Y.stJ 6 rfl _ _).stJ 6 rfl _ _)
      clear_value hv6
      obtain ⟨Jv, T0, T1⟩ := T
      obtain ⟨B_2, hB_2, _⟩ := Y.cut [] [0, 1, 2, 3, 4, 5, 6] rfl
      refine ⟨fun lz h' => ∃ (c0_2 : Nat) (c1_2 : Nat), lz = [.float .f64 c0_2, .float .f64 c1_2] ∧ Sy h [] h' ([] ++ B_2) ∧ Jv c0_2 c1_2, ?_, ?_⟩
      · subst hB_2
        replace T := T0
        clear T0 T1
        refine cnd_imp T (fun T => ?_) (fun T => ?_)
        · intro hv7
          have Y : Sy _ _ hv7 [_, _, _, _, _, _, _] := ((Y.stJ 5 rfl _ _).stJ 5 rfl _ _)
          clear_value hv7
          exact ⟨_, _, rfl, Y.pick [0, 1, 2, 3, 4, 5, 6] rfl, T⟩
        · intro r hq
          replace T := T r hq
          intro hv8
          have Y : Sy _ _ hv8 [_, _, _, _, _, _, _] := (Y.stJ 5 rfl _ _)
          clear_value hv8
          intro r2 hq
          replace T := T r2 hq
          intro hv9
          have Y : Sy _ _ hv9 [_, _, _, _, _, _, _] := (Y.stJ 5 rfl _ _)
          clear_value hv9
          exact ⟨_, _, rfl, Y.pick [0, 1, 2, 3, 4, 5, 6] rfl, T⟩
      · subst hB_2
        clear T0 Y
        rintro c0_2 c1_2 hv10 ⟨c0_2, c1_2, e, Y, T⟩
        cases e
        replace T := T1 c0_2 c1_2 T
        have Y : Sy _ _ _ [_, _, _, _, _, _, _] := Y
        exact loopBack hm ⟨_, _, _, rfl, Y.pick [0, 1, 2, 3, 4, 5] rfl, T.1, rfl⟩ T.2
    · obtain ⟨Jv_2, T0, T1⟩ := T
      obtain ⟨B_3, hB_3, _⟩ := Y.cut [] [0, 1, 2, 3, 4, 5] rfl
      intro K
      have hK : ∀ (x6 : Nat) (x7 : Nat) (hv17 : Heap), (Sy h [] hv17 ([] ++ B_3) ∧ Jv_2 x6 x7) → K x6 x7 hv17 := by
        subst hB_3
        clear T0 Y
        rintro x6 x7 hv17 ⟨Y, T⟩
        replace T := T1 x6 x7 T
        have Y : Sy _ _ _ [_, _, _, _, _, _] := Y
        unfold K
        intro hv18
        have Y : Sy _ _ hv18 [_, _, _, _, _, _] := ((Y.stJ 4 rfl _ _).stJ 4 rfl _ _)
        clear_value hv18
        exact ⟨_, _, Y.pick [] rfl, rfl, T⟩
      subst hB_3
      replace T := T0
      clear T0 T1
      have Y0 := Y
      have F : Fr [] hv4 hv4 := Fr.refl _ _
      obtain ⟨T_3, T_4⟩ := T
      refine ⟨?_, ?_⟩
      · have T := T_3
        intro r3 hq
        replace T := T r3 hq
        refine ⟨F, ?_⟩
        obtain ⟨T, T_2⟩ := T
        refine ⟨?_, ?_⟩
        · have T := T
          refine callX_sy (T _ (Hp.nil _)) (fun _ _ ⟨_, p, _⟩ => p.fr) (allc (fun h => by cases h) (allc (fun h => by cases h) (allc (fun h => by cases h) alln))) ?_
          rintro v hv11 ⟨r4, PP, rfl, T⟩
          have F : Fr _ _ hv11 := F.trans PP.fr.nil
          have fshv11 := F.size
          have Y : Sy _ _ hv11 [_, _, _, _, _, _] := Y.gr PP.fr
          clear PP
          refine ⟨r4, rfl, ?_⟩
          refine ⟨F, ?_⟩
          intro r5 hq
          replace T := T r5 hq
          refine ⟨F, ?_⟩
          refine callX_sy (T _ (Hp.nil _)) (fun _ _ ⟨_, p, _⟩ => p.fr) (allc (fun h => by cases h) (allc (fun h => by cases h) (allc (fun h => by cases h) alln))) ?_
          rintro v2 hv12 ⟨r6, PP, rfl, T⟩
          have F : Fr _ _ hv12 := F.trans PP.fr.nil
          have fshv12 := F.size
          have Y : Sy _ _ hv12 [_, _, _, _, _, _] := Y.gr PP.fr
          clear PP
          refine ⟨r6, rfl, ?_⟩
          refine ⟨F, ?_⟩
          exact hK _ _ _ ⟨Y.pick [0, 1, 2, 3, 4, 5] rfl, T⟩
        · have T := T_2
          intro r7 hq
          replace T := T r7 hq
          refine ⟨F, ?_⟩
          refine callX_sy (T _ (Hp.nil _)) (fun _ _ ⟨_, p, _⟩ => p.fr) (allc (fun h => by cases h) (allc (fun h => by cases h) (allc (fun h => by cases h) alln))) ?_
          rintro v3 hv13 ⟨r8, PP, rfl, T⟩
          have F : Fr _ _ hv13 := F.trans PP.fr.nil
          have fshv13 := F.size
          have Y : Sy _ _ hv13 [_, _, _, _, _, _] := Y.gr PP.fr
          clear PP
          refine ⟨r8, rfl, ?_⟩
          refine ⟨F, ?_⟩
          refine callX_sy (T _ (Hp.nil _)) (fun _ _ ⟨_, p, _⟩ => p.fr) (allc (fun h => by cases h) (allc (fun h => by cases h) (allc (fun h => by cases h) alln))) ?_
          rintro v4 hv14 ⟨r9, PP, rfl, T⟩
          have F : Fr _ _ hv14 := F.trans PP.fr.nil
          have fshv14 := F.size
          have Y : Sy _ _ hv14 [_, _, _, _, _, _] := Y.gr PP.fr
          clear PP
          refine ⟨r9, rfl, ?_⟩
          refine ⟨F, ?_⟩
          exact hK _ _ _ ⟨Y.pick [0, 1, 2, 3, 4, 5] rfl, T⟩
      · have T := T_4
        intro r10 hq
        replace T := T r10 hq
        refine ⟨F, ?_⟩
        intro r11 hq
        replace T := T r11 hq
        refine ⟨F, ?_⟩
        refine callX_sy (T _ (Hp.nil _)) (fun _ _ ⟨_, p, _⟩ => p.fr) (allc (fun h => by cases h) (allc (fun h => by cases h) (allc (fun h => by cases h) alln))) ?_
        rintro v5 hv15 ⟨r12, PP, rfl, T⟩
        have F : Fr _ _ hv15 := F.trans PP.fr.nil
        have fshv15 := F.size
        have Y : Sy _ _ hv15 [_, _, _, _, _, _] := Y.gr PP.fr
        clear PP
        refine ⟨r12, rfl, ?_⟩
        refine ⟨F, ?_⟩
        refine callX_sy (T _ (Hp.nil _)) (fun _ _ ⟨_, p, _⟩ => p.fr) (allc (fun h => by cases h) (allc (fun h => by cases h) (allc (fun h => by cases h) alln))) ?_
        rintro v6 hv16 ⟨r13, PP, rfl, T⟩
        have F : Fr _ _ hv16 := F.trans PP.fr.nil
        have fshv16 := F.size
        have Y : Sy _ _ hv16 [_, _, _, _, _, _] := Y.gr PP.fr
        clear PP
        refine ⟨r13, rfl, ?_⟩
        refine ⟨F, ?_⟩
        exact hK _ _ _ ⟨Y.pick [0, 1, 2, 3, 4, 5] rfl, T⟩

/-- tracery/tutte.Rounds -/
def S46 (g : Int) (gA : Option Addr) (gL gC : Nat) (atA : Option Addr) (atL atC : Nat) (heldA : Option Addr) (heldL heldC : Nat) (k : Int) (h : Heap) (R : Value → Heap → Prop) : Prop :=
  let hv : Heap := h.push (.cells #[.int .i64 g, .slice gA gL gC] 26)
  callX Try.prog 140 #[.agg #[.int .i64 g, .slice gA gL gC]] hv [h.size] fun v hv2 =>
  ∃ r : Bool, v = .bool r ∧
  cnd (!r)
    (R (.tuple #[.slice none 0 0, .int .i64 1]) hv2)
    (cnd (((atL : Nat) : Int) != g)
      (R (.tuple #[.slice none 0 0, .int .i64 1]) hv2)
      (cnd (((heldL : Nat) : Int) != g)
        (R (.tuple #[.slice none 0 0, .int .i64 1]) hv2)
        (cnd (decide (k < (0 : Int)))
          (R (.tuple #[.slice none 0 0, .int .i64 1]) hv2)
          (cnd (decide (k > (4096 : Int)))
            (R (.tuple #[.slice none 0 0, .int .i64 3]) hv2)
            (cnd (decide ((IntKind.i64.wrap (k * (IntKind.i64.wrap (g + (IntKind.i64.wrap ((2 : Int) * ((gL : Nat) : Int))))))) > (16777216 : Int)))
              (R (.tuple #[.slice none 0 0, .int .i64 3]) hv2)
              (callX Try.prog 141 #[.agg #[.int .i64 g, .slice gA gL gC]] hv2 [h.size] fun v2 hv3 =>
              ∃ (rA : Option Addr) (rL rC : Nat), v2 = .slice rA rL rC ∧
              let K := fun (nowA : Option Addr) (nowL nowC : Nat) (thenA : Option Addr) (thenL thenC : Nat) (hv8 : Heap) =>
                (∃ (Iv : List Value → Heap → Prop) (m : List Value → Heap → Nat), Iv [.slice nowA nowL nowC, .slice thenA thenL thenC, .int .i64 0] hv8 ∧ -- loop 1: ['now', 'then', '60']
                ∀ (nowA2 : Option Addr) (nowL2 nowC2 : Nat), ∀ (thenA2 : Option Addr) (thenL2 thenC2 : Nat), ∀ x : Int, ∀ hv9, Iv [.slice nowA2 nowL2 nowC2, .slice thenA2 thenL2 thenC2, .int .i64 x] hv9 →
                cnd (decide (x < k))
                  (∃ (Iv2 : List Value → Heap → Prop) (m2 : List Value → Heap → Nat), Iv2 [.int .i64 0] hv9 ∧ -- loop 3: ['64']
                  ∀ x2 : Int, ∀ hv10, Iv2 [.int .i64 x2] hv10 →
                  cnd (decide (x2 < ((rL : Nat) : Int)))
                    (let K2 := fun (hv15 : Heap) =>
                      (Iv2 [.int .i64 (IntKind.i64.wrap (x2 + (1 : Int)))] hv15 ∧ m2 [.int .i64 (IntKind.i64.wrap (x2 + (1 : Int)))] hv15 < m2 [.int .i64 x2] hv10)
                    ∃ b o, rA = some ⟨b, o, none⟩ ∧ 0 ≤ x2 ∧ x2 < (rL : Nat) ∧ ∃ (xA : Option Addr) (xL xC : Nat), hcell hv10 b (o + (Int.toNat x2) * 1) = some (.slice xA xL xC) ∧ ∃ b2 o2, nowA2 = some ⟨b2, o2, none⟩ ∧ 0 ≤ x2 ∧ x2 < (nowL2 : Nat) ∧ ∃ x3 : Nat, hcell hv10 b2 (o2 + (Int.toNat x2) * 2) = some (.float .f64 x3) ∧ ∃ x4 : Nat, hcell hv10 b2 ((o2 + (Int.toNat x2) * 2) + 1) = some (.float .f64 x4) ∧ ∃ b3 o3, thenA2 = some ⟨b3, o3, none⟩ ∧ 0 ≤ x2 ∧ x2 < (thenL2 : Nat) ∧ b3 ≠ h.size ∧ (∃ u, hcell hv10 b3 (o3 + (Int.toNat x2) * 2) = some u) ∧ hfree hv10 b3 (o3 + (Int.toNat x2) * 2) = true ∧ (∃ u, hcell hv10 b3 ((o3 + (Int.toNat x2) * 2) + 1) = some u) ∧ hfree hv10 b3 ((o3 + (Int.toNat x2) * 2) + 1) = true ∧ let hv11 : Heap := hset (hset hv10 b3 (o3 + (Int.toNat x2) * 2) (.float .f64 x3)) b3 ((o3 + (Int.toNat x2) * 2) + 1) (.float .f64 x4)
                    ∃ b4 o4, heldA = some ⟨b4, o4, none⟩ ∧ 0 ≤ x2 ∧ x2 < (heldL : Nat) ∧ ∃ x5 : Bool, hcell hv11 b4 (o4 + (Int.toNat x2) * 1) = some (.bool x5) ∧ cnd (!x5)
                      (∃ Jv : List Value → Heap → Prop, -- join 85 []
                      ( cnd (decide (((xL : Nat) : Int) > (0 : Int)))
                         (callX Try.prog 142 #[.agg #[.int .i64 g, .slice gA gL gC], .slice nowA2 nowL2 nowC2, .slice xA xL xC] hv11 [h.size] fun v3 hv12 =>
                         ∃ r2 : Nat, ∃ r3 : Nat, v3 = .agg #[.float .f64 r2, .float .f64 r3] ∧
                         ∃ b5 o5, thenA2 = some ⟨b5, o5, none⟩ ∧ 0 ≤ x2 ∧ x2 < (thenL2 : Nat) ∧ b5 ≠ h.size ∧ (∃ u, hcell hv12 b5 (o5 + (Int.toNat x2) * 2) = some u) ∧ hfree hv12 b5 (o5 + (Int.toNat x2) * 2) = true ∧ (∃ u, hcell hv12 b5 ((o5 + (Int.toNat x2) * 2) + 1) = some u) ∧ hfree hv12 b5 ((o5 + (Int.toNat x2) * 2) + 1) = true ∧ let hv13 : Heap := hset (hset hv12 b5 (o5 + (Int.toNat x2) * 2) (.float .f64 r2)) b5 ((o5 + (Int.toNat x2) * 2) + 1) (.float .f64 r3)
                         Jv [] hv13)
                         (Jv [] hv11)) ∧
                      ∀ hv14, Jv [] hv14 →
                      K2 hv14)
                      (K2 hv11))
                    (Iv [.slice thenA2 thenL2 thenC2, .slice nowA2 nowL2 nowC2, .int .i64 (IntKind.i64.wrap (x + (1 : Int)))] hv10 ∧ m [.slice thenA2 thenL2 thenC2, .slice nowA2 nowL2 nowC2, .int .i64 (IntKind.i64.wrap (x + (1 : Int)))] hv10 < m [.slice nowA2 nowL2 nowC2, .slice thenA2 thenL2 thenC2, .int .i64 x] hv9))
                  (R (.tuple #[.slice nowA2 nowL2 nowC2, .int .i64 0]) hv9))
              ∃ Mv : List Nat, (∀ b ∈ ([h.size] : List Nat), b ∉ Mv) ∧
              (∃ xs : List Value, Reads hv3 2 atA atL xs ∧ (atA = none → atC = 0) ∧ (∀ v ∈ xs, v.oneCell' = true) ∧ ∃ old, Own hv3 56 2 none 0 0 old ∧ (∀ b ∈ ([h.size] : List Nat), b ∉ blkOf none) ∧ (0 + atL) * 16 ≤ 140737488355328 ∧ (0 + atL) ≤ maxLen ∧
              ∀ sA sC hv4, Own hv4 56 2 sA (0 + atL) sC (old ++ xs) → Fr (blkOf none) hv3 hv4 → ((sA = none ∧ sC = 0) ∨ ∃ g, sA = some ⟨g, 0, none⟩ ∧ hv3.size ≤ g) →
              Fr Mv hv3 hv4 ∧
              0 ≤ g ∧ g ≤ g ∧ ((16 : Nat) : Int) * g ≤ 281474976710656 ∧ g ≤ 9223372036854775807 ∧ let hv5 : Heap := hv4.push (.cells (madeCells (List.toArray [.float .f64 0, .float .f64 0]) (Int.toNat g * 2)) 56)
              Fr Mv hv3 hv5 ∧
              K sA (0 + atL) sC (some (⟨hv4.size, 0, none⟩ : Addr)) (Int.toNat g) (Int.toNat g) hv5)
              ∧ ( 0 ≤ g ∧ g ≤ g ∧ ((16 : Nat) : Int) * g ≤ 281474976710656 ∧ g ≤ 9223372036854775807 ∧ let hv6 : Heap := hv3.push (.cells (madeCells (List.toArray [.float .f64 0, .float .f64 0]) (Int.toNat g * 2)) 56)
               Fr Mv hv3 hv6 ∧
               ∃ xs2 : List Value, Reads hv6 2 atA atL xs2 ∧ (atA = none → atC = 0) ∧ (∀ v ∈ xs2, v.oneCell' = true) ∧ ∃ old2, Own hv6 56 2 none 0 0 old2 ∧ (∀ b ∈ ([h.size] : List Nat), b ∉ blkOf none) ∧ (0 + atL) * 16 ≤ 140737488355328 ∧ (0 + atL) ≤ maxLen ∧
               ∀ sA2 sC2 hv7, Own hv7 56 2 sA2 (0 + atL) sC2 (old2 ++ xs2) → Fr (blkOf none) hv6 hv7 → ((sA2 = none ∧ sC2 = 0) ∨ ∃ g, sA2 = some ⟨g, 0, none⟩ ∧ hv6.size ≤ g) →
               Fr Mv hv3 hv7 ∧
               K sA2 (0 + atL) sC2 (some (⟨hv3.size, 0, none⟩ : Addr)) (Int.toNat g) (Int.toNat g) hv7)))))))

theorem calls46 {h : Heap} {R : Value → Heap → Prop} (g : Int) (gA : Option Addr) (gL gC : Nat) (atA : Option Addr) (atL atC : Nat) (heldA : Option Addr) (heldL heldC : Nat) (k : Int) (H : S46 g gA gL gC atA atL atC heldA heldL heldC k h R) : CallsH Try.prog 46 #[.agg #[.int .i64 g, .slice gA gL gC], .slice atA atL atC, .slice heldA heldL heldC, .int .i64 k] h R := by
  have e : S46 g gA gL gC atA atL atC heldA heldL heldC k h R = FX (envX [4] 98) { loops := [(1, ⟨[2, 4, 10, 59], [11, 12, 60], [4], []⟩), (3, ⟨[2, 4, 10, 11, 12, 59, 60, 62, 63], [64], [4], []⟩)], joins := [(85, ⟨[2, 4, 10, 11, 12, 59, 60, 62, 63, 64], [], [4], []⟩)], blocks := [], draws := [(6, ⟨7, true⟩)] } Try.f46 (Try.f46.body.getD .skip) [.agg #[.int .i64 g, .slice gA gL gC], .slice atA atL atC, .slice heldA heldL heldC, .int .i64 k] h R := by kernel_rfl
  exact calls_of_FX (envX_ok _ _) Try.func46 (by kernel_rfl) (by kernel_rfl) (by kernel_rfl) (e ▸ H)

/-- tracery/tutte.Rounds -/
def Ok46 (g : Int) (edgesV : List (Int × Int)) (atV : List (Nat × Nat)) (heldV : List Bool) (k : Int) (R : List (Nat × Nat) → Int → Prop) : Prop :=
  ∀ (h : Heap) (gA : Option Addr) (gL gC : Nat) (atA : Option Addr) (atL atC : Nat) (heldA : Option Addr) (heldL heldC : Nat), Hp h [Ck.vw eP gA gL gC edgesV, Ck.vw eFF atA atL atC atV, Ck.vw eB heldA heldL heldC heldV] → CallsH Try.prog 46 #[.agg #[.int .i64 g, .slice gA gL gC], .slice atA atL atC, .slice heldA heldL heldC, .int .i64 k] h fun v h' => ∃ (raVA : Option Addr) (raVL raVC : Nat) (raV : List (Nat × Nat)) (rbV : Int), Sy h [] h' [Ck.sl eFF 56 raVA raVL raVC raV] ∧ v = .tuple #[.slice raVA raVL raVC, .int .i64 rbV] ∧ R raV rbV
theorem Ok46.mono {g edgesV atV heldV k} {R R' : List (Nat × Nat) → Int → Prop} (H : Ok46 g edgesV atV heldV k R) (kz : ∀ raV rbV, R raV rbV → R' raV rbV) : Ok46 g edgesV atV heldV k R' :=
  fun h gA gL gC atA atL atC heldA heldL heldC hp => (H h gA gL gC atA atL atC heldA heldL heldC hp).mono fun _ _ ⟨raVA, raVL, raVC, raV, rbV, P, e, q⟩ => ⟨raVA, raVL, raVC, raV, rbV, P, e, kz _ _ q⟩

def T46 (g : Int) (edgesV : List (Int × Int)) (atV : List (Nat × Nat)) (heldV : List Bool) (k : Int) (R : List (Nat × Nat) → Int → Prop) : Prop :=
  Ok140 g edgesV (fun r =>
  cnd (!r)
    (R ([] : List (Nat × Nat)) 1)
    (cnd (((atV.length : Nat) : Int) != g)
      (R ([] : List (Nat × Nat)) 1)
      (cnd (((heldV.length : Nat) : Int) != g)
        (R ([] : List (Nat × Nat)) 1)
        (cnd (decide (k < (0 : Int)))
          (R ([] : List (Nat × Nat)) 1)
          (cnd (decide (k > (4096 : Int)))
            (R ([] : List (Nat × Nat)) 3)
            (cnd (decide ((IntKind.i64.wrap (k * (IntKind.i64.wrap (g + (IntKind.i64.wrap ((2 : Int) * ((edgesV.length : Nat) : Int))))))) > (16777216 : Int)))
              (R ([] : List (Nat × Nat)) 3)
              (Ok141 g edgesV (fun r_2 =>
              ∃ Jv_2 : List (Nat × Nat) → List (Nat × Nat) → Prop,
              ( ((0 + atV.length) < 1000000000000 ∧ 0 ≤ g ∧ g ≤ 1000000000000 ∧ Jv_2 (([] : List (Nat × Nat)) ++ atV) (List.replicate (Int.toNat g) (0, 0))) ∧ (0 ≤ g ∧ g ≤ 1000000000000 ∧ (0 + atV.length) < 1000000000000 ∧ Jv_2 (([] : List (Nat × Nat)) ++ atV) (List.replicate (Int.toNat g) (0, 0)))) ∧
              ∀ now : List (Nat × Nat), ∀ thenv : List (Nat × Nat), Jv_2 now thenv →
              ∃ (Iv : List (Nat × Nat) → List (Nat × Nat) → Int → Prop) (m : List (Nat × Nat) → List (Nat × Nat) → Int → Nat), Iv now thenv 0 ∧
              ∀ now_2 : List (Nat × Nat), ∀ thenv_2 : List (Nat × Nat), ∀ x : Int, Iv now_2 thenv_2 x →
              cnd (decide (x < k))
                (∃ (Iv2 : Int → List (Nat × Nat) → Prop) (m2 : Int → List (Nat × Nat) → Nat), Iv2 0 thenv_2 ∧
                ∀ x2 : Int, ∀ thenv_2_2 : List (Nat × Nat), Iv2 x2 thenv_2_2 →
                cnd (decide (x2 < ((r_2.length : Nat) : Int)))
                  (∃ Jv_3 : List (Nat × Nat) → Prop,
                  ( 0 ≤ x2 ∧ x2 < ((r_2.length : Nat) : Int) ∧ ∀ r_3 : List Int, r_2[(Int.toNat x2)]? = some r_3 → 0 ≤ x2 ∧ x2 < ((now_2.length : Nat) : Int) ∧ ∀ now_3 : (Nat × Nat), now_2[(Int.toNat x2)]? = some now_3 → 0 ≤ x2 ∧ x2 < ((thenv_2.length : Nat) : Int) ∧ 0 ≤ x2 ∧ x2 < ((heldV.length : Nat) : Int) ∧ ∀ held : Bool, heldV[(Int.toNat x2)]? = some held → cnd (!held)
                     (∃ Jv : List (Nat × Nat) → Prop,
                     ( cnd (decide (((r_3.length : Nat) : Int) > (0 : Int)))
                        (Ok142 g edgesV now_2 r_3 (fun r2 r3 =>
                        0 ≤ x2 ∧ x2 < ((thenv_2.length : Nat) : Int) ∧ Jv ((thenv_2_2.set (Int.toNat x2) (now_3.1, now_3.2)).set (Int.toNat x2) (r2, r3))))
                        (Jv (thenv_2_2.set (Int.toNat x2) (now_3.1, now_3.2)))) ∧
                     ∀ thenv_4 : List (Nat × Nat), Jv thenv_4 →
                     Jv_3 thenv_4)
                     (Jv_3 (thenv_2_2.set (Int.toNat x2) (now_3.1, now_3.2)))) ∧
                  ∀ thenv_2_2_2 : List (Nat × Nat), Jv_3 thenv_2_2_2 →
                  Iv2 (IntKind.i64.wrap (x2 + (1 : Int))) thenv_2_2_2 ∧ m2 (IntKind.i64.wrap (x2 + (1 : Int))) thenv_2_2_2 < m2 x2 thenv_2_2)
                  (Iv thenv_2_2 now_2 (IntKind.i64.wrap (x + (1 : Int))) ∧ m thenv_2_2 now_2 (IntKind.i64.wrap (x + (1 : Int))) < m now_2 thenv_2 x))
                (R now_2 0)))))))))

theorem ok46 {g edgesV atV heldV k} {R : List (Nat × Nat) → Int → Prop} (T : T46 g edgesV atV heldV k R) : Ok46 g edgesV atV heldV k R := by
  intro h gA gL gC atA atL atC heldA heldL heldC H
  have Y : Sy h [] h _ := Sy.startM H rfl
  obtain rfl := Y.lenV 0 rfl
  obtain rfl := Y.lenV 1 rfl
  obtain rfl := Y.lenV 2 rfl
  apply calls46
  unfold S46
  unfold T46 at T
  intro hv
  have Y : Sy _ _ hv [_, _, _, _] := Y.junk _
  clear_value hv
  refine callX_sy (T _ _ _ _ (Y.pick [0] rfl).hp) (fun _ _ ⟨_, p, _⟩ => p.fr) (allc (fun h => by cases h) alln) ?_
  rintro v hv2 ⟨r, PP, rfl, T⟩
  have Y : Sy _ _ hv2 [_, _, _, _] := Y.gr PP.fr
  clear PP
  refine ⟨r, rfl, ?_⟩
  refine cnd_imp T (fun T => ?_) (fun T => ?_)
  · have Y : Sy _ _ _ [_, _, _, _, _] := Y.nilS eFF 56
    exact ⟨_, _, _, _, _, Y.pick [4] rfl, rfl, T⟩
  · refine cnd_imp T (fun T => ?_) (fun T => ?_)
    · have Y : Sy _ _ _ [_, _, _, _, _] := Y.nilS eFF 56
      exact ⟨_, _, _, _, _, Y.pick [4] rfl, rfl, T⟩
    · refine cnd_imp T (fun T => ?_) (fun T => ?_)
      · have Y : Sy _ _ _ [_, _, _, _, _] := Y.nilS eFF 56
        exact ⟨_, _, _, _, _, Y.pick [4] rfl, rfl, T⟩
      · refine cnd_imp T (fun T => ?_) (fun T => ?_)
        · have Y : Sy _ _ _ [_, _, _, _, _] := Y.nilS eFF 56
          exact ⟨_, _, _, _, _, Y.pick [4] rfl, rfl, T⟩
        · refine cnd_imp T (fun T => ?_) (fun T => ?_)
          · have Y : Sy _ _ _ [_, _, _, _, _] := Y.nilS eFF 56
            exact ⟨_, _, _, _, _, Y.pick [4] rfl, rfl, T⟩
          · refine cnd_imp T (fun T => ?_) (fun T => ?_)
            · have Y : Sy _ _ _ [_, _, _, _, _] := Y.nilS eFF 56
              exact ⟨_, _, _, _, _, Y.pick [4] rfl, rfl, T⟩
            · refine callX_sy (T _ _ _ _ (Y.pick [0] rfl).hp) (fun _ _ ⟨_, _, _, _, _, p, _⟩ => p.fr) (allc (fun h => by cases h) alln) ?_
              rintro v2 hv3 ⟨rA, rL, rC, rH, r_2, PP, rfl, T⟩
              have Y : Sy _ _ hv3 [_, _, _, _, _] := Y.callV PP ⟨rfl, trivial⟩
              clear PP
              obtain rfl := Y.lenR 4 rfl
              refine ⟨_, _, _, rfl, ?_⟩
              obtain ⟨Jv_2, T0, T1⟩ := T
              obtain ⟨B, hB, _⟩ := Y.cut [] [0, 1, 2, 3, 4] rfl
              intro K
              have hK : ∀ (nowA : Option Addr) (nowL nowC : Nat) (thenA : Option Addr) (thenL thenC : Nat) (hv8 : Heap), (∃ (now : List (Nat × Nat)) (thenv : List (Nat × Nat)), Sy h [] hv8 ([Ck.sl eFF 56 nowA nowL nowC now, Ck.sl eFF 56 thenA thenL thenC thenv] ++ B) ∧ Jv_2 now thenv) → K nowA nowL nowC thenA thenL thenC hv8 := by
                subst hB
                clear T0 Y
                rintro nowA nowL nowC thenA thenL thenC hv8 ⟨now, thenv, Y, T⟩
                obtain rfl := Y.lenS 0 rfl
                obtain rfl := Y.lenS 1 rfl
                replace T := T1 now thenv T
                have Y : Sy _ _ _ [_, _, _, _, _, _, _] := Y
                unfold K
                obtain ⟨Iv, m, T0, T1⟩ := T
                obtain ⟨B_2, hB_2, YB⟩ := Y.cut [0, 1] [2, 3, 4, 5, 6] rfl
                obtain ⟨JJ, hJJ⟩ : ∃ JJ : Nat → List Value → Heap → Prop, JJ = (fun k_2 lz h' => ∃ (nowA2 : Option Addr) (nowL2 nowC2 : Nat) (now_2 : List (Nat × Nat)) (thenA2 : Option Addr) (thenL2 thenC2 : Nat) (thenv_2 : List (Nat × Nat)) (x : Int), lz = [.slice nowA2 nowL2 nowC2, .slice thenA2 thenL2 thenC2, .int .i64 x] ∧ Sy h [] h' ([Ck.sl eFF 56 nowA2 nowL2 nowC2 now_2, Ck.sl eFF 56 thenA2 thenL2 thenC2 thenv_2] ++ B_2) ∧ Iv now_2 thenv_2 x ∧ m now_2 thenv_2 x = k_2) := ⟨_, rfl⟩
                refine ⟨fun lz h' => ∃ k_2, JJ k_2 lz h', Lm JJ, ?_, ?_⟩
                · subst hJJ hB_2
                  exact ⟨_, _, _, _, _, _, _, _, _, _, rfl, YB, T0, rfl⟩
                · clear YB T0 Y
                  intro nowA2 nowL2 nowC2 thenA2 thenL2 thenC2 x hv9 hI
                  obtain ⟨k_2, hI, hm⟩ := loopIn hI
                  subst hJJ hB_2
                  obtain ⟨nowA2, nowL2, nowC2, now_2, thenA2, thenL2, thenC2, thenv_2, x, e, Y, T, rfl⟩ := hI
                  cases e
                  obtain rfl := Y.lenS 0 rfl
                  obtain rfl := Y.lenS 1 rfl
                  replace T := T1 now_2 thenv_2 x T
                  have Y : Sy _ _ _ [_, _, _, _, _, _, _] := Y
                  refine cnd_imp T (fun T => ?_) (fun T => ?_)
                  · obtain ⟨Iv2, m2, T0, T1⟩ := T
                    obtain ⟨B_3, hB_3, YB⟩ := Y.cut [1] [0, 2, 3, 4, 5, 6] rfl
                    obtain ⟨F, hF⟩ := Y.fnS (k := 1) rfl
                    obtain ⟨JJ_2, hJJ_2⟩ : ∃ JJ_2 : Nat → List Value → Heap → Prop, JJ_2 = (fun k_3 lz h' => ∃ (x2 : Int) (thenv_2_2 : List (Nat × Nat)), lz = [.int .i64 x2] ∧ Sy h [] h' ([F thenv_2_2] ++ B_3) ∧ Iv2 x2 thenv_2_2 ∧ m2 x2 thenv_2_2 = k_3) := ⟨_, rfl⟩
                    refine ⟨fun lz h' => ∃ k_3, JJ_2 k_3 lz h', Lm JJ_2, ?_, ?_⟩
                    · subst hJJ_2 hB_3 hF
                      exact ⟨_, _, _, rfl, YB, T0, rfl⟩
                    · clear YB T0 Y
                      intro x2 hv10 hI
                      obtain ⟨k_3, hI, hm_2⟩ := loopIn hI
                      subst hJJ_2 hB_3 hF
                      obtain ⟨x2, thenv_2_2, e, Y, T, rfl⟩ := hI
                      cases e
                      replace T := T1 x2 thenv_2_2 T
                      have Y : Sy _ _ _ [_, _, _, _, _, _, _] := Y
                      refine cnd_imp T (fun T => ?_) (fun T => ?_)
                      · obtain ⟨Jv_3, T0, T1⟩ := T
                        obtain ⟨B_4, hB_4, _⟩ := Y.cut [] [1, 2, 3, 4, 5, 6] rfl
                        obtain ⟨F_2, hF_2⟩ := Y.fnS (k := 0) rfl
                        intro K2
                        have hK2 : ∀  (hv15 : Heap), (∃ (thenv_2_2_2 : List (Nat × Nat)), Sy h [] hv15 ([F_2 thenv_2_2_2] ++ B_4) ∧ Jv_3 thenv_2_2_2) → K2 hv15 := by
                          subst hB_4 hF_2
                          clear T0 Y
                          rintro hv15 ⟨thenv_2_2_2, Y, T⟩
                          replace T := T1 thenv_2_2_2 T
                          have Y : Sy _ _ _ [_, _, _, _, _, _, _] := Y
                          unfold K2
                          exact loopBack hm_2 ⟨_, _, rfl, Y.pick [0, 1, 2, 3, 4, 5, 6] rfl, T.1, rfl⟩ T.2
                        subst hB_4 hF_2
                        replace T := T0
                        clear T0 T1
                        obtain ⟨q, q_2, T⟩ := T
                        obtain ⟨b_2, hb, ho, r_3, hx, r_4, hr⟩ := Y.atR 6 rfl q q_2
                        refine ⟨b_2, 0, hb, q, q_2, ?_⟩
                        replace T := T r_3 hx
                        refine ⟨_, _, _, Y.cellR 6 rfl hb hr hx, ?_⟩
                        obtain ⟨q_3, q_4, T⟩ := T
                        obtain ⟨b_3, hb_2, ho_2, now_3, hx_2⟩ := Y.atS 1 rfl q_3 q_4
                        refine ⟨b_3, 0, hb_2, q_3, q_4, ?_⟩
                        replace T := T now_3 hx_2
                        refine ⟨_, Y.cellS 1 rfl hb_2 (t := 0) hx_2 rfl, ?_⟩
                        refine ⟨_, Y.cellS 1 rfl hb_2 (t := 1) hx_2 rfl, ?_⟩
                        obtain ⟨q_5, q_6, T⟩ := T
                        obtain ⟨b_4, hb_3, ho_3, thenv_3, hx_3⟩ := Y.atS 0 rfl q_5 q_6
                        refine ⟨b_4, 0, hb_3, q_5, q_6, ?_⟩
                        refine ⟨(Y.neJ 0 5 rfl rfl rfl ho_3), Y.cellEx 0 rfl hb_3 (t := 0) (by omega) (by decide), Y.freeS 0 rfl hb_3 _, Y.cellEx 0 rfl hb_3 (t := 1) (by omega) (by decide), Y.freeS 0 rfl hb_3 _, ?_⟩
                        intro hv11
                        have Y : Sy _ _ hv11 [_, _, _, _, _, _, _] := Y.st2 0 rfl hb_3 (now_3.1, now_3.2) (by omega) rfl (fun y => ⟨(now_3.1, y.2), rfl⟩) rfl
                        clear_value hv11
                        obtain ⟨q_7, q_8, T⟩ := T
                        obtain ⟨b_5, o_2, hb_4, hr_2, held, hx_4⟩ := Y.atV 4 rfl q_7 q_8
                        refine ⟨b_5, o_2, hb_4, q_7, q_8, ?_⟩
                        replace T := T held hx_4
                        refine ⟨_, Y.cellV 4 rfl hb_4 (t := 0) hx_4 rfl, ?_⟩
                        refine cnd_imp T (fun T => ?_) (fun T => ?_)
                        · obtain ⟨Jv, T0, T1⟩ := T
                          obtain ⟨B_5, hB_5, _⟩ := Y.cut [] [1, 2, 3, 4, 5, 6] rfl
                          obtain ⟨F_3, hF_3⟩ := Y.fnS (k := 0) rfl
                          refine ⟨fun lz h' => ∃ (thenv_4 : List (Nat × Nat)), lz = [] ∧ Sy h [] h' ([F_3 thenv_4] ++ B_5) ∧ Jv thenv_4, ?_, ?_⟩
                          · subst hB_5 hF_3
                            replace T := T0
                            clear T0 T1
                            refine cnd_imp T (fun T => ?_) (fun T => ?_)
                            · refine callX_sy (T _ _ _ _ _ _ _ _ _ _ (((Y.turn 1 rfl To.slvw).turn 6 rfl (To.rowsvw hr hx (Y.rowLenR 6 rfl hr hx))).pick [2, 1, 6] rfl).hp) (fun _ _ ⟨_, _, p, _⟩ => p.fr) (allc (fun h => by cases h) alln) ?_
                              rintro v3 hv12 ⟨r2, r3, PP, rfl, T⟩
                              have Y : Sy _ _ hv12 [_, _, _, _, _, _, _] := Y.gr PP.fr
                              clear PP
                              refine ⟨r2, r3, rfl, ?_⟩
                              obtain ⟨q_9, q_10, T⟩ := T
                              obtain ⟨b_6, hb_5, ho_4, thenv_5, hx_5⟩ := Y.atS 0 rfl q_9 q_10
                              refine ⟨b_6, 0, hb_5, q_9, q_10, ?_⟩
                              refine ⟨(Y.neJ 0 5 rfl rfl rfl ho_4), Y.cellEx 0 rfl hb_5 (t := 0) (by omega) (by decide), Y.freeS 0 rfl hb_5 _, Y.cellEx 0 rfl hb_5 (t := 1) (by omega) (by decide), Y.freeS 0 rfl hb_5 _, ?_⟩
                              intro hv13
                              have Y : Sy _ _ hv13 [_, _, _, _, _, _, _] := Y.st2 0 rfl hb_5 (r2, r3) (by omega) rfl (fun y => ⟨(r2, y.2), rfl⟩) rfl
                              clear_value hv13
                              exact ⟨_, rfl, Y.pick [0, 1, 2, 3, 4, 5, 6] rfl, T⟩
                            · exact ⟨_, rfl, Y.pick [0, 1, 2, 3, 4, 5, 6] rfl, T⟩
                          · subst hB_5 hF_3
                            clear T0 Y
                            rintro hv14 ⟨thenv_4, e, Y, T⟩
                            cases e
                            replace T := T1 thenv_4 T
                            have Y : Sy _ _ _ [_, _, _, _, _, _, _] := Y
                            exact hK2 _ ⟨_, Y.pick [0, 1, 2, 3, 4, 5, 6] rfl, T⟩
                        · exact hK2 _ ⟨_, Y.pick [0, 1, 2, 3, 4, 5, 6] rfl, T⟩
                      · exact loopBack hm ⟨_, _, _, _, _, _, _, _, _, rfl, Y.pick [0, 1, 2, 3, 4, 5, 6] rfl, T.1, rfl⟩ T.2
                  · exact ⟨_, _, _, _, _, Y.pick [0] rfl, rfl, T⟩
              subst hB
              replace T := T0
              clear T0 T1
              have Y0 := Y
              obtain ⟨Mx, hMx⟩ := Y.mt [] []
              refine ⟨Mx, ?_⟩
              subst hMx
              refine ⟨(allc (Y0.nMJ 3 [] [] rfl rfl) alln), ?_⟩
              have F : Fr _ hv3 hv3 := Y0.frM [] []
              obtain ⟨T, T_2⟩ := T
              refine ⟨?_, ?_⟩
              · have T := T
                refine ⟨_, Y.readsV 1 rfl, (Y.capV 1 rfl).2, En.l_one _, ?_⟩
                have Y : Sy _ _ _ [_, _, _, _, _, _] := Y.nilS eFF 56
                obtain ⟨q_11, T⟩ := T
                refine ⟨_, Y.ownS 5 rfl, (allc (Y.nJ 5 3 rfl rfl rfl) alln), by omega, by simp [maxLen]; omega, ?_⟩
                intro sA sC hv4 ow fA gA
                have Y : Sy _ _ hv4 [_, _, _, _, _, _] := Y.appS 5 rfl atV ow fA gA rfl (by first | rfl | simp)
                have ns := F.appIn nil_in gA (Nat.le_refl _)
                have F : Fr _ _ hv4 := F.comp fA nil_in
                have fshv4 := F.size
                refine ⟨F, ?_⟩
                obtain ⟨q_12, q_14, T⟩ := T
                refine ⟨q_12, Int.le_refl _, by omega, by omega, ?_⟩
                intro hv5
                have Y : Sy _ _ hv5 [_, _, _, _, _, _, _] := Y.mkS (E := eFF) (ty := 56) (0, 0) (Int.toNat g) (Int.toNat g) (Nat.le_refl _) (by simp [maxLen]; omega)
                have F : Fr _ _ hv5 := F.pushr _
                have fshv5 := F.size
                clear_value hv5
                refine ⟨F, ?_⟩
                exact hK _ _ _ _ _ _ _ ⟨_, _, Y.pick [5, 6, 0, 1, 2, 3, 4] rfl, T⟩
              · have T := T_2
                obtain ⟨q_15, q_17, T⟩ := T
                refine ⟨q_15, Int.le_refl _, by omega, by omega, ?_⟩
                intro hv6
                have Y : Sy _ _ hv6 [_, _, _, _, _, _] := Y.mkS (E := eFF) (ty := 56) (0, 0) (Int.toNat g) (Int.toNat g) (Nat.le_refl _) (by simp [maxLen]; omega)
                have F : Fr _ _ hv6 := F.pushr _
                have fshv6 := F.size
                clear_value hv6
                refine ⟨F, ?_⟩
                refine ⟨_, Y.readsV 1 rfl, (Y.capV 1 rfl).2, En.l_one _, ?_⟩
                have Y : Sy _ _ _ [_, _, _, _, _, _, _] := Y.nilS eFF 56
                obtain ⟨q_18, T⟩ := T
                refine ⟨_, Y.ownS 6 rfl, (allc (Y.nJ 6 3 rfl rfl rfl) alln), by omega, by simp [maxLen]; omega, ?_⟩
                intro sA2 sC2 hv7 ow fA gA
                have Y : Sy _ _ hv7 [_, _, _, _, _, _, _] := Y.appS 6 rfl atV ow fA gA rfl (by first | rfl | simp)
                have ns_2 := F.appIn nil_in gA fshv6
                have F : Fr _ _ hv7 := F.comp fA nil_in
                have fshv7 := F.size
                refine ⟨F, ?_⟩
                exact hK _ _ _ _ _ _ _ ⟨_, _, Y.pick [6, 5, 0, 1, 2, 3, 4] rfl, T⟩

/-- tracery/tutte.whole -/
def S144 (x : Nat) (scale : Nat) (h : Heap) (R : Value → Heap → Prop) : Prop :=
  ∀ r, FRes .f64 x scale ((FloatKind.f64).format.mul x scale) r → callE Try.prog 204 #[.float .f64 r] fun v =>
  ∃ r2 : Nat, v = .float .f64 r2 ∧
  cnd ((FloatKind.f64).format.order r2 r2 != some .eq)
    (R (.tuple #[.int .i64 0, .int .i64 17]) h)
    (cnd ((FloatKind.f64).format.order r2 13920626448202203136 == some .lt)
      (R (.tuple #[.int .i64 0, .int .i64 2]) h)
      (cnd ((FloatKind.f64).format.order r2 4697254411347427328 == some .gt)
        (R (.tuple #[.int .i64 0, .int .i64 2]) h)
        (∀ r3, F2I .f64 r2 .i64 r3 → R (.tuple #[.int .i64 r3, .int .i64 0]) h)))

theorem calls144 {h : Heap} {R : Value → Heap → Prop} (x : Nat) (scale : Nat) (H : S144 x scale h R) : CallsH Try.prog 144 #[.float .f64 x, .float .f64 scale] h R := by
  have e : S144 x scale h R = FX (envX [] 24) { loops := [], joins := [], blocks := [], draws := [] } Try.f144 (Try.f144.body.getD .skip) [.float .f64 x, .float .f64 scale] h R := by kernel_rfl
  exact calls_of_FX (envX_ok _ _) Try.func144 (by kernel_rfl) (by kernel_rfl) (by kernel_rfl) (e ▸ H)

/-- tracery/tutte.whole -/
def Ok144 (x : Nat) (scale : Nat) (R : Int → Int → Prop) : Prop :=
  ∀ (h : Heap), Hp h [] → CallsH Try.prog 144 #[.float .f64 x, .float .f64 scale] h fun v h' => ∃ (raV : Int) (rbV : Int), Sy h [] h' [] ∧ v = .tuple #[.int .i64 raV, .int .i64 rbV] ∧ R raV rbV
theorem Ok144.mono {x scale} {R R' : Int → Int → Prop} (H : Ok144 x scale R) (kz : ∀ raV rbV, R raV rbV → R' raV rbV) : Ok144 x scale R' :=
  fun h  hp => (H h  hp).mono fun _ _ ⟨raV, rbV, P, e, q⟩ => ⟨raV, rbV, P, e, kz _ _ q⟩

def T144 (x : Nat) (scale : Nat) (R : Int → Int → Prop) : Prop :=
  ∀ r : Nat, FRes .f64 x scale ((FloatKind.f64).format.mul x scale) r → callE Try.prog 204 #[.float .f64 r] fun v =>
  ∃ r2 : Nat, v = .float .f64 r2 ∧
  cnd ((FloatKind.f64).format.order r2 r2 != some .eq)
    (R 0 17)
    (cnd ((FloatKind.f64).format.order r2 13920626448202203136 == some .lt)
      (R 0 2)
      (cnd ((FloatKind.f64).format.order r2 4697254411347427328 == some .gt)
        (R 0 2)
        (∀ r3 : Int, F2I .f64 r2 .i64 r3 → R r3 0)))

theorem ok144 {x scale} {R : Int → Int → Prop} (T : T144 x scale R) : Ok144 x scale R := by
  intro h  H
  have Y : Sy h [] h _ := Sy.startM H rfl
  apply calls144
  unfold S144
  unfold T144 at T
  intro r hq
  replace T := T r hq
  obtain ⟨Rx, hx, T⟩ := T
  refine ⟨Rx, hx, fun v hv => ?_⟩
  obtain ⟨r2, rfl, T⟩ := T v hv
  refine ⟨r2, rfl, ?_⟩
  refine cnd_imp T (fun T => ?_) (fun T => ?_)
  · exact ⟨_, _, Y.pick [] rfl, rfl, T⟩
  · refine cnd_imp T (fun T => ?_) (fun T => ?_)
    · exact ⟨_, _, Y.pick [] rfl, rfl, T⟩
    · refine cnd_imp T (fun T => ?_) (fun T => ?_)
      · exact ⟨_, _, Y.pick [] rfl, rfl, T⟩
      · intro r3 hq
        replace T := T r3 hq
        exact ⟨_, _, Y.pick [] rfl, rfl, T⟩

/-- tracery/tutte.Snap -/
def S48 (atA : Option Addr) (atL atC : Nat) (scale : Nat) (h : Heap) (R : Value → Heap → Prop) : Prop :=
  cnd (decide (((atL : Nat) : Int) > (1024 : Int)))
    (R (.tuple #[.slice none 0 0, .int .i64 1]) h)
    (∃ (Iv : List Value → Heap → Prop) (m : List Value → Heap → Nat), Iv [.slice none 0 0, .int .i64 0] h ∧ -- loop 0: ['l', '18']
    ∀ (lA : Option Addr) (lL lC : Nat), ∀ x : Int, ∀ hv, Iv [.slice lA lL lC, .int .i64 x] hv →
    cnd (decide (x < ((atL : Nat) : Int)))
      (∃ b o, atA = some ⟨b, o, none⟩ ∧ 0 ≤ x ∧ x < (atL : Nat) ∧ ∃ x2 : Nat, hcell hv b (o + (Int.toNat x) * 2) = some (.float .f64 x2) ∧ ∃ x3 : Nat, hcell hv b ((o + (Int.toNat x) * 2) + 1) = some (.float .f64 x3) ∧ let hv2 : Heap := hv.push (.cells #[.float .f64 0, .float .f64 0] 56)
      let hv3 : Heap := hset (hset hv2 hv.size 0 (.float .f64 x2)) hv.size (0 + 1) (.float .f64 x3)
      callX Try.prog 144 #[.float .f64 x2, .float .f64 scale] hv3 [hv.size] fun v hv4 =>
      ∃ ra : Int, ∃ rb : Int, v = .tuple #[.int .i64 ra, .int .i64 rb] ∧
      callX Try.prog 144 #[.float .f64 x3, .float .f64 scale] hv4 [hv.size] fun v2 hv5 =>
      ∃ ra2 : Int, ∃ rb2 : Int, v2 = .tuple #[.int .i64 ra2, .int .i64 rb2] ∧
      ∃ Jv : List Value → Heap → Prop, -- join 37 ['e']
      ( cnd (rb == (0 : Int))
         (Jv [.int .i64 rb2] hv5)
         (Jv [.int .i64 rb] hv5)) ∧
      ∀ ev : Int, ∀ hv6, Jv [.int .i64 ev] hv6 →
      cnd (ev != (0 : Int))
        (R (.tuple #[.slice none 0 0, .int .i64 ev]) hv6)
        (let hv7 : Heap := hv6.push (.cells #[.int .i64 ra, .int .i64 ra2] 65)
        ∃ old, Own hv7 65 2 lA lL lC old ∧ (∀ b ∈ ([hv6.size] : List Nat), b ∉ blkOf lA) ∧ (lL + 1) * 16 ≤ 140737488355328 ∧ (lL + 1) ≤ maxLen ∧
        ∀ sA sC hv8, Own hv8 65 2 sA (lL + 1) sC (old ++ [.int .i64 ra, .int .i64 ra2]) → Fr (blkOf lA) hv7 hv8 → ((sA = lA ∧ sC = lC) ∨ ∃ g, sA = some ⟨g, 0, none⟩ ∧ hv7.size ≤ g) →
        Iv [.slice sA (lL + 1) sC, .int .i64 (IntKind.i64.wrap (x + (1 : Int)))] hv8 ∧ m [.slice sA (lL + 1) sC, .int .i64 (IntKind.i64.wrap (x + (1 : Int)))] hv8 < m [.slice lA lL lC, .int .i64 x] hv))
      (R (.tuple #[.slice lA lL lC, .int .i64 0]) hv))

theorem calls48 {h : Heap} {R : Value → Heap → Prop} (atA : Option Addr) (atL atC : Nat) (scale : Nat) (H : S48 atA atL atC scale h R) : CallsH Try.prog 48 #[.slice atA atL atC, .float .f64 scale] h R := by
  have e : S48 atA atL atC scale h R = FX (envX [8, 46] 50) { loops := [(0, ⟨[1, 16, 17], [6, 18], [], []⟩)], joins := [(37, ⟨[1, 6, 9, 11, 16, 17, 18], [10], [], []⟩)], blocks := [], draws := [] } Try.f48 (Try.f48.body.getD .skip) [.slice atA atL atC, .float .f64 scale] h R := by kernel_rfl
  exact calls_of_FX (envX_ok _ _) Try.func48 (by kernel_rfl) (by kernel_rfl) (by kernel_rfl) (e ▸ H)

/-- tracery/tutte.Snap -/
def Ok48 (atV : List (Nat × Nat)) (scale : Nat) (R : List (Int × Int) → Int → Prop) : Prop :=
  ∀ (h : Heap) (atA : Option Addr) (atL atC : Nat), Hp h [Ck.vw eFF atA atL atC atV] → CallsH Try.prog 48 #[.slice atA atL atC, .float .f64 scale] h fun v h' => ∃ (raVA : Option Addr) (raVL raVC : Nat) (raV : List (Int × Int)) (rbV : Int), Sy h [] h' [Ck.sl eP 65 raVA raVL raVC raV] ∧ v = .tuple #[.slice raVA raVL raVC, .int .i64 rbV] ∧ R raV rbV
theorem Ok48.mono {atV scale} {R R' : List (Int × Int) → Int → Prop} (H : Ok48 atV scale R) (kz : ∀ raV rbV, R raV rbV → R' raV rbV) : Ok48 atV scale R' :=
  fun h atA atL atC hp => (H h atA atL atC hp).mono fun _ _ ⟨raVA, raVL, raVC, raV, rbV, P, e, q⟩ => ⟨raVA, raVL, raVC, raV, rbV, P, e, kz _ _ q⟩

def T48 (atV : List (Nat × Nat)) (scale : Nat) (R : List (Int × Int) → Int → Prop) : Prop :=
  cnd (decide (((atV.length : Nat) : Int) > (1024 : Int)))
    (R ([] : List (Int × Int)) 1)
    (∃ (Iv : List (Int × Int) → Int → Prop) (m : List (Int × Int) → Int → Nat), Iv ([] : List (Int × Int)) 0 ∧
    ∀ l : List (Int × Int), ∀ x : Int, Iv l x →
    cnd (decide (x < ((atV.length : Nat) : Int)))
      (0 ≤ x ∧ x < ((atV.length : Nat) : Int) ∧ ∀ atv : (Nat × Nat), atV[(Int.toNat x)]? = some atv → Ok144 atv.1 scale (fun ra rb =>
      Ok144 atv.2 scale (fun ra2 rb2 =>
      ∃ Jv : Int → Prop,
      ( cnd (rb == (0 : Int))
         (Jv rb2)
         (Jv rb)) ∧
      ∀ ev : Int, Jv ev →
      cnd (ev != (0 : Int))
        (R ([] : List (Int × Int)) ev)
        ((l.length + 1) < 1000000000000 ∧ Iv (l ++ [(ra, ra2)]) (IntKind.i64.wrap (x + (1 : Int))) ∧ m (l ++ [(ra, ra2)]) (IntKind.i64.wrap (x + (1 : Int))) < m l x))))
      (R l 0))

theorem ok48 {atV scale} {R : List (Int × Int) → Int → Prop} (T : T48 atV scale R) : Ok48 atV scale R := by
  intro h atA atL atC H
  have Y : Sy h [] h _ := Sy.startM H rfl
  obtain rfl := Y.lenV 0 rfl
  apply calls48
  unfold S48
  unfold T48 at T
  refine cnd_imp T (fun T => ?_) (fun T => ?_)
  · have Y : Sy _ _ _ [_, _] := Y.nilS eP 65
    exact ⟨_, _, _, _, _, Y.pick [1] rfl, rfl, T⟩
  · have Y : Sy _ _ _ [_, _] := Y.nilS eP 65
    obtain ⟨Iv, m, T0, T1⟩ := T
    obtain ⟨B, hB, YB⟩ := Y.cut [1] [0] rfl
    obtain ⟨JJ, hJJ⟩ : ∃ JJ : Nat → List Value → Heap → Prop, JJ = (fun k lz h' => ∃ (lA : Option Addr) (lL lC : Nat) (l : List (Int × Int)) (x : Int), lz = [.slice lA lL lC, .int .i64 x] ∧ Sy h [] h' ([Ck.sl eP 65 lA lL lC l] ++ B) ∧ Iv l x ∧ m l x = k) := ⟨_, rfl⟩
    refine ⟨fun lz h' => ∃ k, JJ k lz h', Lm JJ, ?_, ?_⟩
    · subst hJJ hB
      exact ⟨_, _, _, _, _, _, rfl, YB, T0, rfl⟩
    · clear YB T0 Y
      intro lA lL lC x hv hI
      obtain ⟨k, hI, hm⟩ := loopIn hI
      subst hJJ hB
      obtain ⟨lA, lL, lC, l, x, e, Y, T, rfl⟩ := hI
      cases e
      obtain rfl := Y.lenS 0 rfl
      replace T := T1 l x T
      have Y : Sy _ _ _ [_, _] := Y
      refine cnd_imp T (fun T => ?_) (fun T => ?_)
      · obtain ⟨q, q_2, T⟩ := T
        obtain ⟨b_2, o_2, hb, hr, atv, hx⟩ := Y.atV 1 rfl q q_2
        refine ⟨b_2, o_2, hb, q, q_2, ?_⟩
        replace T := T atv hx
        refine ⟨_, Y.cellV 1 rfl hb (t := 0) hx rfl, ?_⟩
        refine ⟨_, Y.cellV 1 rfl hb (t := 1) hx rfl, ?_⟩
        intro hv2
        have Y : Sy _ _ hv2 [_, _, _] := Y.junk _
        clear_value hv2
        intro hv3
        have Y : Sy _ _ hv3 [_, _, _] := ((Y.stJ 2 rfl _ _).stJ 2 rfl _ _)
        clear_value hv3
        refine callX_sy (T _ (Hp.nil _)) (fun _ _ ⟨_, _, p, _⟩ => p.fr) (allc (fun h => by cases h) alln) ?_
        rintro v hv4 ⟨ra, rb, PP, rfl, T⟩
        have Y : Sy _ _ hv4 [_, _, _] := Y.gr PP.fr
        clear PP
        refine ⟨ra, rb, rfl, ?_⟩
        refine callX_sy (T _ (Hp.nil _)) (fun _ _ ⟨_, _, p, _⟩ => p.fr) (allc (fun h => by cases h) alln) ?_
        rintro v2 hv5 ⟨ra2, rb2, PP, rfl, T⟩
        have Y : Sy _ _ hv5 [_, _, _] := Y.gr PP.fr
        clear PP
        refine ⟨ra2, rb2, rfl, ?_⟩
        obtain ⟨Jv, T0, T1⟩ := T
        obtain ⟨B_2, hB_2, _⟩ := Y.cut [] [0, 1, 2] rfl
        refine ⟨fun lz h' => ∃ (ev : Int), lz = [.int .i64 ev] ∧ Sy h [] h' ([] ++ B_2) ∧ Jv ev, ?_, ?_⟩
        · subst hB_2
          replace T := T0
          clear T0 T1
          refine cnd_imp T (fun T => ?_) (fun T => ?_)
          · exact ⟨_, rfl, Y.pick [0, 1, 2] rfl, T⟩
          · exact ⟨_, rfl, Y.pick [0, 1, 2] rfl, T⟩
        · subst hB_2
          clear T0 Y
          rintro ev hv6 ⟨ev, e, Y, T⟩
          cases e
          replace T := T1 ev T
          have Y : Sy _ _ _ [_, _, _] := Y
          refine cnd_imp T (fun T => ?_) (fun T => ?_)
          · have Y : Sy _ _ _ [_, _, _, _] := Y.nilS eP 65
            exact ⟨_, _, _, _, _, Y.pick [3] rfl, rfl, T⟩
          · intro hv7
            have Y : Sy _ _ hv7 [_, _, _, _] := Y.junk _
            clear_value hv7
            obtain ⟨q_3, T⟩ := T
            refine ⟨_, Y.ownS 0 rfl, (allc (Y.nJ 0 3 rfl rfl rfl) alln), by omega, by simp [maxLen]; omega, ?_⟩
            intro sA sC hv8 ow fA gA
            have Y : Sy _ _ hv8 [_, _, _, _] := Y.appS 0 rfl ([(ra, ra2)] : List (Int × Int)) ow fA gA rfl rfl
            exact loopBack hm ⟨_, _, _, _, _, rfl, Y.pick [0, 1] rfl, T.1, rfl⟩ T.2
      · exact ⟨_, _, _, _, _, Y.pick [0] rfl, rfl, T⟩

/-- math.Abs -/
def S56 (x : Nat) (h : Heap) (R : Value → Heap → Prop) : Prop :=
  callE Try.prog 149 #[.float .f64 x] fun v =>
  ∃ r : Int, v = .int .u64 r ∧
  callE Try.prog 45 #[.int .u64 (bits .andNot .u64 r (9223372036854775808 : Int))] fun v2 =>
  ∃ r2 : Nat, v2 = .float .f64 r2 ∧
  R (.float .f64 r2) h

theorem calls56 {h : Heap} {R : Value → Heap → Prop} (x : Nat) (H : S56 x h R) : CallsH Try.prog 56 #[.float .f64 x] h R := by
  have e : S56 x h R = FX (envX [] 7) { loops := [], joins := [], blocks := [], draws := [] } Try.f56 (Try.f56.body.getD .skip) [.float .f64 x] h R := by kernel_rfl
  exact calls_of_FX (envX_ok _ _) Try.func56 (by kernel_rfl) (by kernel_rfl) (by kernel_rfl) (e ▸ H)

/-- math.Abs -/
def Ok56 (x : Nat) (R : Nat → Prop) : Prop :=
  ∀ (h : Heap), Hp h [] → CallsH Try.prog 56 #[.float .f64 x] h fun v h' => ∃ (rV : Nat), Sy h [] h' [] ∧ v = .float .f64 rV ∧ R rV
theorem Ok56.mono {x} {R R' : Nat → Prop} (H : Ok56 x R) (kz : ∀ rV, R rV → R' rV) : Ok56 x R' :=
  fun h  hp => (H h  hp).mono fun _ _ ⟨rV, P, e, q⟩ => ⟨rV, P, e, kz _ q⟩

def T56 (x : Nat) (R : Nat → Prop) : Prop :=
  callE Try.prog 149 #[.float .f64 x] fun v =>
  ∃ r : Int, v = .int .u64 r ∧
  callE Try.prog 45 #[.int .u64 (bits .andNot .u64 r (9223372036854775808 : Int))] fun v2 =>
  ∃ r2 : Nat, v2 = .float .f64 r2 ∧
  R r2

theorem ok56 {x} {R : Nat → Prop} (T : T56 x R) : Ok56 x R := by
  intro h  H
  have Y : Sy h [] h _ := Sy.startM H rfl
  apply calls56
  unfold S56
  unfold T56 at T
  obtain ⟨Rx_2, hx_2, T⟩ := T
  refine ⟨Rx_2, hx_2, fun v hv => ?_⟩
  obtain ⟨r, rfl, T⟩ := T v hv
  refine ⟨r, rfl, ?_⟩
  obtain ⟨Rx, hx, T⟩ := T
  refine ⟨Rx, hx, fun v2 hv => ?_⟩
  obtain ⟨r2, rfl, T⟩ := T v2 hv
  refine ⟨r2, rfl, ?_⟩
  exact ⟨_, Y.pick [] rfl, rfl, T⟩

/-- tracery/weigh.Less -/
def S146 (a : Nat) (b : Nat) (h : Heap) (R : Value → Heap → Prop) : Prop :=
  cnd ((FloatKind.f64).format.order a a != some .eq)
    (R (.bool ((FloatKind.f64).format.order a a == some .eq)) h)
    (cnd ((FloatKind.f64).format.order b b != some .eq)
      (R (.bool ((FloatKind.f64).format.order a a == some .eq)) h)
      (R (.bool ((FloatKind.f64).format.order a b == some .lt)) h))

theorem calls146 {h : Heap} {R : Value → Heap → Prop} (a : Nat) (b : Nat) (H : S146 a b h R) : CallsH Try.prog 146 #[.float .f64 a, .float .f64 b] h R := by
  have e : S146 a b h R = FX (envX [] 19) { loops := [], joins := [], blocks := [], draws := [] } Try.f146 (Try.f146.body.getD .skip) [.float .f64 a, .float .f64 b] h R := by kernel_rfl
  exact calls_of_FX (envX_ok _ _) Try.func146 (by kernel_rfl) (by kernel_rfl) (by kernel_rfl) (e ▸ H)

/-- tracery/weigh.Less -/
def Ok146 (a : Nat) (b : Nat) (R : Bool → Prop) : Prop :=
  ∀ (h : Heap), Hp h [] → CallsH Try.prog 146 #[.float .f64 a, .float .f64 b] h fun v h' => ∃ (rV : Bool), Sy h [] h' [] ∧ v = .bool rV ∧ R rV
theorem Ok146.mono {a b} {R R' : Bool → Prop} (H : Ok146 a b R) (kz : ∀ rV, R rV → R' rV) : Ok146 a b R' :=
  fun h  hp => (H h  hp).mono fun _ _ ⟨rV, P, e, q⟩ => ⟨rV, P, e, kz _ q⟩

def T146 (a : Nat) (b : Nat) (R : Bool → Prop) : Prop :=
  cnd ((FloatKind.f64).format.order a a != some .eq)
    (R ((FloatKind.f64).format.order a a == some .eq))
    (cnd ((FloatKind.f64).format.order b b != some .eq)
      (R ((FloatKind.f64).format.order a a == some .eq))
      (R ((FloatKind.f64).format.order a b == some .lt)))

theorem ok146 {a b} {R : Bool → Prop} (T : T146 a b R) : Ok146 a b R := by
  intro h  H
  have Y : Sy h [] h _ := Sy.startM H rfl
  apply calls146
  unfold S146
  unfold T146 at T
  refine cnd_imp T (fun T => ?_) (fun T => ?_)
  · exact ⟨_, Y.pick [] rfl, rfl, T⟩
  · refine cnd_imp T (fun T => ?_) (fun T => ?_)
    · exact ⟨_, Y.pick [] rfl, rfl, T⟩
    · exact ⟨_, Y.pick [] rfl, rfl, T⟩

/-- tracery/tutte.Moved -/
def S51 (aA : Option Addr) (aL aC : Nat) (bA : Option Addr) (bL bC : Nat) (h : Heap) (R : Value → Heap → Prop) : Prop :=
  cnd (((aL : Nat) : Int) != ((bL : Nat) : Int))
    (R (.tuple #[.float .f64 0, .int .i64 1]) h)
    (∃ (Iv : List Value → Heap → Prop) (m : List Value → Heap → Nat), Iv [.float .f64 0, .int .i64 0] h ∧ -- loop 0: ['most', '17']
    ∀ most : Nat, ∀ x : Int, ∀ hv, Iv [.float .f64 most, .int .i64 x] hv →
    cnd (decide (x < ((aL : Nat) : Int)))
      (let K := fun (x6 : Nat) (x7 : Nat) (hv2 : Heap) =>
        (∃ (Iv2 : List Value → Heap → Prop) (m2 : List Value → Heap → Nat), Iv2 [.float .f64 most, .int .i64 0] hv2 ∧ -- loop 2: ['most', '43']
        ∀ most2 : Nat, ∀ x8 : Int, ∀ hv3, Iv2 [.float .f64 most2, .int .i64 x8] hv3 →
        cnd (decide (x8 < (2 : Int)))
          (0 ≤ x8 ∧ x8 < ((2 : Nat) : Int) ∧ ∃ x9 : Nat, (#[.float .f64 x6, .float .f64 x7] : Array Value)[Int.toNat x8]? = some (.float .f64 x9) ∧ callX Try.prog 56 #[.float .f64 x9] hv3 [] fun v hv4 =>
          ∃ r5 : Nat, v = .float .f64 r5 ∧
          callX Try.prog 146 #[.float .f64 most2, .float .f64 r5] hv4 [] fun v2 hv5 =>
          ∃ r6 : Bool, v2 = .bool r6 ∧
          ∃ Jv : List Value → Heap → Prop, -- join 50 ['most']
          ( cnd r6
             (Jv [.float .f64 r5] hv5)
             (Jv [.float .f64 most2] hv5)) ∧
          ∀ most3 : Nat, ∀ hv6, Jv [.float .f64 most3] hv6 →
          Iv2 [.float .f64 most3, .int .i64 (IntKind.i64.wrap (x8 + (1 : Int)))] hv6 ∧ m2 [.float .f64 most3, .int .i64 (IntKind.i64.wrap (x8 + (1 : Int)))] hv6 < m2 [.float .f64 most2, .int .i64 x8] hv3)
          (Iv [.float .f64 most2, .int .i64 (IntKind.i64.wrap (x + (1 : Int)))] hv3 ∧ m [.float .f64 most2, .int .i64 (IntKind.i64.wrap (x + (1 : Int)))] hv3 < m [.float .f64 most, .int .i64 x] hv))
      ∃ b o, aA = some ⟨b, o, none⟩ ∧ 0 ≤ x ∧ x < (aL : Nat) ∧ ∃ x2 : Nat, hcell hv b (o + (Int.toNat x) * 2) = some (.float .f64 x2) ∧ ∃ b2 o2, bA = some ⟨b2, o2, none⟩ ∧ 0 ≤ x ∧ x < (bL : Nat) ∧ ∃ x3 : Nat, hcell hv b2 (o2 + (Int.toNat x) * 2) = some (.float .f64 x3) ∧ ∃ b3 o3, aA = some ⟨b3, o3, none⟩ ∧ 0 ≤ x ∧ x < (aL : Nat) ∧ ∃ x4 : Nat, hcell hv b3 ((o3 + (Int.toNat x) * 2) + 1) = some (.float .f64 x4) ∧ ∃ b4 o4, bA = some ⟨b4, o4, none⟩ ∧ 0 ≤ x ∧ x < (bL : Nat) ∧ ∃ x5 : Nat, hcell hv b4 ((o4 + (Int.toNat x) * 2) + 1) = some (.float .f64 x5) ∧ (∀ r, FRes .f64 x2 x3 ((FloatKind.f64).format.sub x2 x3) r → Fr [] hv hv ∧
      ∀ r2, FRes .f64 x4 x5 ((FloatKind.f64).format.sub x4 x5) r2 → Fr [] hv hv ∧
      K r r2 hv)
      ∧ ( ∀ r3, FRes .f64 x4 x5 ((FloatKind.f64).format.sub x4 x5) r3 → Fr [] hv hv ∧
       ∀ r4, FRes .f64 x2 x3 ((FloatKind.f64).format.sub x2 x3) r4 → Fr [] hv hv ∧
       K r4 r3 hv))
      (callX Try.prog 147 #[.float .f64 most] hv [] fun v3 hv7 =>
      ∃ r7 : Nat, v3 = .float .f64 r7 ∧
      R (.tuple #[.float .f64 r7, .int .i64 0]) hv7))

theorem calls51 {h : Heap} {R : Value → Heap → Prop} (aA : Option Addr) (aL aC : Nat) (bA : Option Addr) (bL bC : Nat) (H : S51 aA aL aC bA bL bC h R) : CallsH Try.prog 51 #[.slice aA aL aC, .slice bA bL bC] h R := by
  have e : S51 aA aL aC bA bL bC h R = FX (envX [] 56) { loops := [(0, ⟨[0, 1, 16], [6, 17], [], []⟩), (2, ⟨[0, 1, 16, 17, 42], [6, 43], [], []⟩)], joins := [(50, ⟨[0, 1, 16, 17, 42, 43], [6], [], []⟩)], blocks := [], draws := [(7, ⟨24, false⟩)] } Try.f51 (Try.f51.body.getD .skip) [.slice aA aL aC, .slice bA bL bC] h R := by kernel_rfl
  exact calls_of_FX (envX_ok _ _) Try.func51 (by kernel_rfl) (by kernel_rfl) (by kernel_rfl) (e ▸ H)

/-- tracery/tutte.Moved -/
def Ok51 (aV : List (Nat × Nat)) (bV : List (Nat × Nat)) (R : Nat → Int → Prop) : Prop :=
  ∀ (h : Heap) (aA : Option Addr) (aL aC : Nat) (bA : Option Addr) (bL bC : Nat), Hp h [Ck.vw eFF aA aL aC aV, Ck.vw eFF bA bL bC bV] → CallsH Try.prog 51 #[.slice aA aL aC, .slice bA bL bC] h fun v h' => ∃ (raV : Nat) (rbV : Int), Sy h [] h' [] ∧ v = .tuple #[.float .f64 raV, .int .i64 rbV] ∧ R raV rbV
theorem Ok51.mono {aV bV} {R R' : Nat → Int → Prop} (H : Ok51 aV bV R) (kz : ∀ raV rbV, R raV rbV → R' raV rbV) : Ok51 aV bV R' :=
  fun h aA aL aC bA bL bC hp => (H h aA aL aC bA bL bC hp).mono fun _ _ ⟨raV, rbV, P, e, q⟩ => ⟨raV, rbV, P, e, kz _ _ q⟩

def T51 (aV : List (Nat × Nat)) (bV : List (Nat × Nat)) (R : Nat → Int → Prop) : Prop :=
  cnd (((aV.length : Nat) : Int) != ((bV.length : Nat) : Int))
    (R 0 1)
    (∃ (Iv : Nat → Int → Prop) (m : Nat → Int → Nat), Iv 0 0 ∧
    ∀ most : Nat, ∀ x : Int, Iv most x →
    cnd (decide (x < ((aV.length : Nat) : Int)))
      (∃ Jv_2 : Nat → Nat → Prop,
      ( 0 ≤ x ∧ x < ((aV.length : Nat) : Int) ∧ ∀ a : (Nat × Nat), aV[(Int.toNat x)]? = some a → 0 ≤ x ∧ x < ((bV.length : Nat) : Int) ∧ ∀ b_4 : (Nat × Nat), bV[(Int.toNat x)]? = some b_4 → (∀ r : Nat, FRes .f64 a.1 b_4.1 ((FloatKind.f64).format.sub a.1 b_4.1) r → ∀ r2 : Nat, FRes .f64 a.2 b_4.2 ((FloatKind.f64).format.sub a.2 b_4.2) r2 → Jv_2 r r2) ∧ (∀ r3 : Nat, FRes .f64 a.2 b_4.2 ((FloatKind.f64).format.sub a.2 b_4.2) r3 → ∀ r4 : Nat, FRes .f64 a.1 b_4.1 ((FloatKind.f64).format.sub a.1 b_4.1) r4 → Jv_2 r4 r3)) ∧
      ∀ x6 : Nat, ∀ x7 : Nat, Jv_2 x6 x7 →
      ∃ (Iv2 : Nat → Int → Prop) (m2 : Nat → Int → Nat), Iv2 most 0 ∧
      ∀ most2 : Nat, ∀ x8 : Int, Iv2 most2 x8 →
      cnd (decide (x8 < (2 : Int)))
        (0 ≤ x8 ∧ x8 < ((2 : Nat) : Int) ∧ ∃ x9 : Nat, (#[.float .f64 x6, .float .f64 x7] : Array Value)[Int.toNat x8]? = some (.float .f64 x9) ∧ Ok56 x9 (fun r5 =>
        Ok146 most2 r5 (fun r6 =>
        ∃ Jv : Nat → Prop,
        ( cnd r6
           (Jv r5)
           (Jv most2)) ∧
        ∀ most3 : Nat, Jv most3 →
        Iv2 most3 (IntKind.i64.wrap (x8 + (1 : Int))) ∧ m2 most3 (IntKind.i64.wrap (x8 + (1 : Int))) < m2 most2 x8)))
        (Iv most2 (IntKind.i64.wrap (x + (1 : Int))) ∧ m most2 (IntKind.i64.wrap (x + (1 : Int))) < m most x))
      (Ok147 most (fun r7 =>
      R r7 0)))

theorem ok51 {aV bV} {R : Nat → Int → Prop} (T : T51 aV bV R) : Ok51 aV bV R := by
  intro h aA aL aC bA bL bC H
  have Y : Sy h [] h _ := Sy.startM H rfl
  obtain rfl := Y.lenV 0 rfl
  obtain rfl := Y.lenV 1 rfl
  apply calls51
  unfold S51
  unfold T51 at T
  refine cnd_imp T (fun T => ?_) (fun T => ?_)
  · exact ⟨_, _, Y.pick [] rfl, rfl, T⟩
  · obtain ⟨Iv, m, T0, T1⟩ := T
    obtain ⟨B, hB, YB⟩ := Y.cut [] [0, 1] rfl
    obtain ⟨JJ, hJJ⟩ : ∃ JJ : Nat → List Value → Heap → Prop, JJ = (fun k lz h' => ∃ (most : Nat) (x : Int), lz = [.float .f64 most, .int .i64 x] ∧ Sy h [] h' ([] ++ B) ∧ Iv most x ∧ m most x = k) := ⟨_, rfl⟩
    refine ⟨fun lz h' => ∃ k, JJ k lz h', Lm JJ, ?_, ?_⟩
    · subst hJJ hB
      exact ⟨_, _, _, rfl, YB, T0, rfl⟩
    · clear YB T0 Y
      intro most x hv hI
      obtain ⟨k, hI, hm⟩ := loopIn hI
      subst hJJ hB
      obtain ⟨most, x, e, Y, T, rfl⟩ := hI
      cases e
      replace T := T1 most x T
      have Y : Sy _ _ _ [_, _] := Y
      refine cnd_imp T (fun T => ?_) (fun T => ?_)
      · obtain ⟨Jv_2, T0, T1⟩ := T
        obtain ⟨B_2, hB_2, _⟩ := Y.cut [] [0, 1] rfl
        intro K
        have hK : ∀ (x6 : Nat) (x7 : Nat) (hv2 : Heap), (Sy h [] hv2 ([] ++ B_2) ∧ Jv_2 x6 x7) → K x6 x7 hv2 := by
          subst hB_2
          clear T0 Y
          rintro x6 x7 hv2 ⟨Y, T⟩
          replace T := T1 x6 x7 T
          have Y : Sy _ _ _ [_, _] := Y
          unfold K
          obtain ⟨Iv2, m2, T0, T1⟩ := T
          obtain ⟨B_3, hB_3, YB⟩ := Y.cut [] [0, 1] rfl
          obtain ⟨JJ_2, hJJ_2⟩ : ∃ JJ_2 : Nat → List Value → Heap → Prop, JJ_2 = (fun k_2 lz h' => ∃ (most2 : Nat) (x8 : Int), lz = [.float .f64 most2, .int .i64 x8] ∧ Sy h [] h' ([] ++ B_3) ∧ Iv2 most2 x8 ∧ m2 most2 x8 = k_2) := ⟨_, rfl⟩
          refine ⟨fun lz h' => ∃ k_2, JJ_2 k_2 lz h', Lm JJ_2, ?_, ?_⟩
          · subst hJJ_2 hB_3
            exact ⟨_, _, _, rfl, YB, T0, rfl⟩
          · clear YB T0 Y
            intro most2 x8 hv3 hI
            obtain ⟨k_2, hI, hm_2⟩ := loopIn hI
            subst hJJ_2 hB_3
            obtain ⟨most2, x8, e, Y, T, rfl⟩ := hI
            cases e
            replace T := T1 most2 x8 T
            have Y : Sy _ _ _ [_, _] := Y
            refine cnd_imp T (fun T => ?_) (fun T => ?_)
            · obtain ⟨q, q_2, x9, q_3, T⟩ := T
              refine ⟨q, q_2, x9, q_3, ?_⟩
              refine callX_sy (T _ (Hp.nil _)) (fun _ _ ⟨_, p, _⟩ => p.fr) alln ?_
              rintro v hv4 ⟨r5, PP, rfl, T⟩
              have Y : Sy _ _ hv4 [_, _] := Y.gr PP.fr
              clear PP
              refine ⟨r5, rfl, ?_⟩
              refine callX_sy (T _ (Hp.nil _)) (fun _ _ ⟨_, p, _⟩ => p.fr) alln ?_
              rintro v2 hv5 ⟨r6, PP, rfl, T⟩
              have Y : Sy _ _ hv5 [_, _] := Y.gr PP.fr
              clear PP
              refine ⟨r6, rfl, ?_⟩
              obtain ⟨Jv, T0, T1⟩ := T
              obtain ⟨B_4, hB_4, _⟩ := Y.cut [] [0, 1] rfl
              refine ⟨fun lz h' => ∃ (most3 : Nat), lz = [.float .f64 most3] ∧ Sy h [] h' ([] ++ B_4) ∧ Jv most3, ?_, ?_⟩
              · subst hB_4
                replace T := T0
                clear T0 T1
                refine cnd_imp T (fun T => ?_) (fun T => ?_)
                · exact ⟨_, rfl, Y.pick [0, 1] rfl, T⟩
                · exact ⟨_, rfl, Y.pick [0, 1] rfl, T⟩
              · subst hB_4
                clear T0 Y
                rintro most3 hv6 ⟨most3, e, Y, T⟩
                cases e
                replace T := T1 most3 T
                have Y : Sy _ _ _ [_, _] := Y
                exact loopBack hm_2 ⟨_, _, rfl, Y.pick [0, 1] rfl, T.1, rfl⟩ T.2
            · exact loopBack hm ⟨_, _, rfl, Y.pick [0, 1] rfl, T.1, rfl⟩ T.2
        subst hB_2
        replace T := T0
        clear T0 T1
        have Y0 := Y
        have F : Fr [] hv hv := Fr.refl _ _
        obtain ⟨q_4, q_5, T⟩ := T
        obtain ⟨b_2, o_2, hb, hr, a, hx⟩ := Y0.atV 0 rfl q_4 q_5
        refine ⟨b_2, o_2, hb, q_4, q_5, ?_⟩
        replace T := T a hx
        refine ⟨_, Y0.cellV 0 rfl hb (t := 0) hx rfl, ?_⟩
        obtain ⟨q_6, q_7, T⟩ := T
        obtain ⟨b_3, o_3, hb_2, hr_2, b_4, hx_2⟩ := Y0.atV 1 rfl q_6 q_7
        refine ⟨b_3, o_3, hb_2, q_6, q_7, ?_⟩
        replace T := T b_4 hx_2
        refine ⟨_, Y0.cellV 1 rfl hb_2 (t := 0) hx_2 rfl, ?_⟩
        refine ⟨b_2, o_2, hb, q_4, q_5, ?_⟩
        refine ⟨_, Y0.cellV 0 rfl hb (t := 1) hx rfl, ?_⟩
        refine ⟨b_3, o_3, hb_2, q_6, q_7, ?_⟩
        refine ⟨_, Y0.cellV 1 rfl hb_2 (t := 1) hx_2 rfl, ?_⟩
        obtain ⟨T, T_2⟩ := T
        refine ⟨?_, ?_⟩
        · have T := T
          intro r hq
          replace T := T r hq
          refine ⟨F, ?_⟩
          intro r2 hq
          replace T := T r2 hq
          refine ⟨F, ?_⟩
          exact hK _ _ _ ⟨Y.pick [0, 1] rfl, T⟩
        · have T := T_2
          intro r3 hq
          replace T := T r3 hq
          refine ⟨F, ?_⟩
          intro r4 hq
          replace T := T r4 hq
          refine ⟨F, ?_⟩
          exact hK _ _ _ ⟨Y.pick [0, 1] rfl, T⟩
      · refine callX_sy (T _ (Hp.nil _)) (fun _ _ ⟨_, p, _⟩ => p.fr) alln ?_
        rintro v3 hv7 ⟨r7, PP, rfl, T⟩
        have Y : Sy _ _ hv7 [_, _] := Y.gr PP.fr
        clear PP
        refine ⟨r7, rfl, ?_⟩
        exact ⟨_, _, Y.pick [] rfl, rfl, T⟩

/-- tracery/tracerylaw28.Spots -/
def S44 (usA : Option Addr) (usL usC : Nat) (h : Heap) (R : Value → Heap → Prop) : Prop :=
  ∃ (Iv : List Value → Heap → Prop) (m : List Value → Heap → Nat), Iv [.slice none 0 0, .int .i64 0] h ∧ -- loop 0: ['l', 'i']
  ∀ (lA : Option Addr) (lL lC : Nat), ∀ i : Int, ∀ hv, Iv [.slice lA lL lC, .int .i64 i] hv →
  cnd (decide ((IntKind.i64.wrap (i + (1 : Int))) < ((usL : Nat) : Int)))
    (∃ Mv : List Nat, (∀ b ∈ ([] : List Nat), b ∉ Mv) ∧
    ∃ b o, usA = some ⟨b, o, none⟩ ∧ 0 ≤ i ∧ i < (usL : Nat) ∧ b ∉ Mv ∧ ∃ x : Int, hcell hv b (o + (Int.toNat i) * 1) = some (.int .u64 x) ∧ ∃ b2 o2, usA = some ⟨b2, o2, none⟩ ∧ 0 ≤ (IntKind.i64.wrap (i + (1 : Int))) ∧ (IntKind.i64.wrap (i + (1 : Int))) < (usL : Nat) ∧ b2 ∉ Mv ∧ ∃ x2 : Int, hcell hv b2 (o2 + (Int.toNat (IntKind.i64.wrap (i + (1 : Int)))) * 1) = some (.int .u64 x2) ∧ callE Try.prog 45 #[.int .u64 x] fun v =>
    ∃ r : Nat, v = .float .f64 r ∧
    Fr Mv hv hv ∧
    callE Try.prog 45 #[.int .u64 x2] fun v2 =>
    ∃ r2 : Nat, v2 = .float .f64 r2 ∧
    Fr Mv hv hv ∧
    let hv2 : Heap := hv.push (.cells #[.float .f64 r, .float .f64 r2] 56)
    Fr Mv hv hv2 ∧
    ∃ old, Own hv2 56 2 lA lL lC old ∧ (∀ b ∈ ([hv.size] : List Nat), b ∉ blkOf lA) ∧ (lL + 1) * 16 ≤ 140737488355328 ∧ (lL + 1) ≤ maxLen ∧
    ∀ sA sC hv3, Own hv3 56 2 sA (lL + 1) sC (old ++ [.float .f64 r, .float .f64 r2]) → Fr (blkOf lA) hv2 hv3 → ((sA = lA ∧ sC = lC) ∨ ∃ g, sA = some ⟨g, 0, none⟩ ∧ hv2.size ≤ g) →
    Fr Mv hv hv3 ∧
    Iv [.slice sA (lL + 1) sC, .int .i64 (IntKind.i64.wrap (i + (2 : Int)))] hv3 ∧ m [.slice sA (lL + 1) sC, .int .i64 (IntKind.i64.wrap (i + (2 : Int)))] hv3 < m [.slice lA lL lC, .int .i64 i] hv)
    (R (.slice lA lL lC) hv)

theorem calls44 {h : Heap} {R : Value → Heap → Prop} (usA : Option Addr) (usL usC : Nat) (H : S44 usA usL usC h R) : CallsH Try.prog 44 #[.slice usA usL usC] h R := by
  have e : S44 usA usL usC h R = FX (envX [25] 28) { loops := [(0, ⟨[0], [3, 4], [], []⟩)], joins := [], blocks := [], draws := [(5, ⟨16, true⟩)] } Try.f44 (Try.f44.body.getD .skip) [.slice usA usL usC] h R := by kernel_rfl
  exact calls_of_FX (envX_ok _ _) Try.func44 (by kernel_rfl) (by kernel_rfl) (by kernel_rfl) (e ▸ H)

/-- tracery/tracerylaw28.Spots -/
def Ok44 (usV : List Int) (R : List (Nat × Nat) → Prop) : Prop :=
  ∀ (h : Heap) (usA : Option Addr) (usL usC : Nat), Hp h [Ck.vw (eK .u64) usA usL usC usV] → CallsH Try.prog 44 #[.slice usA usL usC] h fun v h' => ∃ (rVA : Option Addr) (rVL rVC : Nat) (rV : List (Nat × Nat)), Sy h [] h' [Ck.sl eFF 56 rVA rVL rVC rV] ∧ v = .slice rVA rVL rVC ∧ R rV
theorem Ok44.mono {usV} {R R' : List (Nat × Nat) → Prop} (H : Ok44 usV R) (kz : ∀ rV, R rV → R' rV) : Ok44 usV R' :=
  fun h usA usL usC hp => (H h usA usL usC hp).mono fun _ _ ⟨rVA, rVL, rVC, rV, P, e, q⟩ => ⟨rVA, rVL, rVC, rV, P, e, kz _ q⟩

def T44 (usV : List Int) (R : List (Nat × Nat) → Prop) : Prop :=
  ∃ (Iv : List (Nat × Nat) → Int → Prop) (m : List (Nat × Nat) → Int → Nat), Iv ([] : List (Nat × Nat)) 0 ∧
  ∀ l : List (Nat × Nat), ∀ i : Int, Iv l i →
  cnd (decide ((IntKind.i64.wrap (i + (1 : Int))) < ((usV.length : Nat) : Int)))
    (0 ≤ i ∧ i < ((usV.length : Nat) : Int) ∧ ∀ us : Int, usV[(Int.toNat i)]? = some us → 0 ≤ (IntKind.i64.wrap (i + (1 : Int))) ∧ (IntKind.i64.wrap (i + (1 : Int))) < ((usV.length : Nat) : Int) ∧ ∀ us_2 : Int, usV[(Int.toNat (IntKind.i64.wrap (i + (1 : Int))))]? = some us_2 → callE Try.prog 45 #[.int .u64 us] fun v =>
    ∃ r : Nat, v = .float .f64 r ∧
    callE Try.prog 45 #[.int .u64 us_2] fun v2 =>
    ∃ r2 : Nat, v2 = .float .f64 r2 ∧
    (l.length + 1) < 1000000000000 ∧ Iv (l ++ [(r, r2)]) (IntKind.i64.wrap (i + (2 : Int))) ∧ m (l ++ [(r, r2)]) (IntKind.i64.wrap (i + (2 : Int))) < m l i)
    (R l)

theorem ok44 {usV} {R : List (Nat × Nat) → Prop} (T : T44 usV R) : Ok44 usV R := by
  intro h usA usL usC H
  have Y : Sy h [] h _ := Sy.startM H rfl
  obtain rfl := Y.lenV 0 rfl
  apply calls44
  unfold S44
  unfold T44 at T
  have Y : Sy _ _ _ [_, _] := Y.nilS eFF 56
  obtain ⟨Iv, m, T0, T1⟩ := T
  obtain ⟨B, hB, YB⟩ := Y.cut [1] [0] rfl
  obtain ⟨JJ, hJJ⟩ : ∃ JJ : Nat → List Value → Heap → Prop, JJ = (fun k lz h' => ∃ (lA : Option Addr) (lL lC : Nat) (l : List (Nat × Nat)) (i : Int), lz = [.slice lA lL lC, .int .i64 i] ∧ Sy h [] h' ([Ck.sl eFF 56 lA lL lC l] ++ B) ∧ Iv l i ∧ m l i = k) := ⟨_, rfl⟩
  refine ⟨fun lz h' => ∃ k, JJ k lz h', Lm JJ, ?_, ?_⟩
  · subst hJJ hB
    exact ⟨_, _, _, _, _, _, rfl, YB, T0, rfl⟩
  · clear YB T0 Y
    intro lA lL lC i hv hI
    obtain ⟨k, hI, hm⟩ := loopIn hI
    subst hJJ hB
    obtain ⟨lA, lL, lC, l, i, e, Y, T, rfl⟩ := hI
    cases e
    obtain rfl := Y.lenS 0 rfl
    replace T := T1 l i T
    have Y : Sy _ _ _ [_, _] := Y
    refine cnd_imp T (fun T => ?_) (fun T => ?_)
    · have Y0 := Y
      obtain ⟨Mx, hMx⟩ := Y.mt [0] []
      refine ⟨Mx, ?_⟩
      subst hMx
      refine ⟨alln, ?_⟩
      have F : Fr _ hv hv := Y0.frM [0] []
      obtain ⟨q, q_2, T⟩ := T
      obtain ⟨b_2, o_2, hb, hr, us, hx⟩ := Y0.atV 1 rfl q q_2
      refine ⟨b_2, o_2, hb, q, q_2, ?_⟩
      refine ⟨(Y0.nMv 1 [0] [] rfl rfl hr), ?_⟩
      replace T := T us hx
      refine ⟨_, Y0.cellV 1 rfl hb (t := 0) hx rfl, ?_⟩
      obtain ⟨q_3, q_4, T⟩ := T
      obtain ⟨b_3, o_3, hb_2, hr_2, us_2, hx_2⟩ := Y0.atV 1 rfl q_3 q_4
      refine ⟨b_3, o_3, hb_2, q_3, q_4, ?_⟩
      refine ⟨(Y0.nMv 1 [0] [] rfl rfl hr_2), ?_⟩
      replace T := T us_2 hx_2
      refine ⟨_, Y0.cellV 1 rfl hb_2 (t := 0) hx_2 rfl, ?_⟩
      obtain ⟨Rx_2, hx_4, T⟩ := T
      refine ⟨Rx_2, hx_4, fun v hv => ?_⟩
      obtain ⟨r, rfl, T⟩ := T v hv
      refine ⟨r, rfl, ?_⟩
      refine ⟨F, ?_⟩
      obtain ⟨Rx, hx_3, T⟩ := T
      refine ⟨Rx, hx_3, fun v2 hv => ?_⟩
      obtain ⟨r2, rfl, T⟩ := T v2 hv
      refine ⟨r2, rfl, ?_⟩
      refine ⟨F, ?_⟩
      intro hv2
      have Y : Sy _ _ hv2 [_, _, _] := Y.junk _
      have F : Fr _ _ hv2 := F.pushr _
      have fshv2 := F.size
      clear_value hv2
      refine ⟨F, ?_⟩
      obtain ⟨q_5, T⟩ := T
      refine ⟨_, Y.ownS 0 rfl, (allc (Y.nJ 0 2 rfl rfl rfl) alln), by omega, by simp [maxLen]; omega, ?_⟩
      intro sA sC hv3 ow fA gA
      have Y : Sy _ _ hv3 [_, _, _] := Y.appS 0 rfl ([(r, r2)] : List (Nat × Nat)) ow fA gA rfl rfl
      have ns := F.appIn (Y0.inMo 0 [0] [] rfl rfl) gA fshv2
      have F : Fr _ _ hv3 := F.comp fA (Y0.inMo 0 [0] [] rfl rfl)
      have fshv3 := F.size
      refine ⟨F, ?_⟩
      exact loopBack hm ⟨_, _, _, _, _, rfl, Y.pick [0, 1] rfl, T.1, rfl⟩ T.2
    · exact ⟨_, _, _, _, Y.pick [0] rfl, rfl, T⟩

/-- tracery/traceryref1.NaN -/
def S203  (h : Heap) (R : Value → Heap → Prop) : Prop :=
  callE Try.prog 45 #[.int .u64 9221120237041090561] fun v =>
  ∃ r : Nat, v = .float .f64 r ∧
  R (.float .f64 r) h

theorem calls203 {h : Heap} {R : Value → Heap → Prop}  (H : S203  h R) : CallsH Try.prog 203 #[] h R := by
  have e : S203  h R = FX (envX [] 2) { loops := [], joins := [], blocks := [], draws := [] } Try.f203 (Try.f203.body.getD .skip) [] h R := by kernel_rfl
  exact calls_of_FX (envX_ok _ _) Try.func203 (by kernel_rfl) (by kernel_rfl) (by kernel_rfl) (e ▸ H)

/-- tracery/traceryref1.NaN -/
def Ok203  (R : Nat → Prop) : Prop :=
  ∀ (h : Heap), Hp h [] → CallsH Try.prog 203 #[] h fun v h' => ∃ (rV : Nat), Sy h [] h' [] ∧ v = .float .f64 rV ∧ R rV
theorem Ok203.mono {R R' : Nat → Prop} (H : Ok203  R) (kz : ∀ rV, R rV → R' rV) : Ok203  R' :=
  fun h  hp => (H h  hp).mono fun _ _ ⟨rV, P, e, q⟩ => ⟨rV, P, e, kz _ q⟩

def T203  (R : Nat → Prop) : Prop :=
  callE Try.prog 45 #[.int .u64 9221120237041090561] fun v =>
  ∃ r : Nat, v = .float .f64 r ∧
  R r

theorem ok203 {R : Nat → Prop} (T : T203  R) : Ok203  R := by
  intro h  H
  have Y : Sy h [] h _ := Sy.startM H rfl
  apply calls203
  unfold S203
  unfold T203 at T
  obtain ⟨Rx, hx, T⟩ := T
  refine ⟨Rx, hx, fun v hv => ?_⟩
  obtain ⟨r, rfl, T⟩ := T v hv
  refine ⟨r, rfl, ?_⟩
  exact ⟨_, Y.pick [] rfl, rfl, T⟩

/-- tracery/traceryref1.Clean -/
def S143 (x : Nat) (h : Heap) (R : Value → Heap → Prop) : Prop :=
  cnd ((FloatKind.f64).format.order x x != some .eq)
    (callX Try.prog 203 #[] h [] fun v hv =>
    ∃ r : Nat, v = .float .f64 r ∧
    R (.float .f64 r) hv)
    (cnd ((FloatKind.f64).format.order x 0 == some .eq)
      (R (.float .f64 0) h)
      (R (.float .f64 x) h))

theorem calls143 {h : Heap} {R : Value → Heap → Prop} (x : Nat) (H : S143 x h R) : CallsH Try.prog 143 #[.float .f64 x] h R := by
  have e : S143 x h R = FX (envX [] 10) { loops := [], joins := [], blocks := [], draws := [] } Try.f143 (Try.f143.body.getD .skip) [.float .f64 x] h R := by kernel_rfl
  exact calls_of_FX (envX_ok _ _) Try.func143 (by kernel_rfl) (by kernel_rfl) (by kernel_rfl) (e ▸ H)

/-- tracery/traceryref1.Clean -/
def Ok143 (x : Nat) (R : Nat → Prop) : Prop :=
  ∀ (h : Heap), Hp h [] → CallsH Try.prog 143 #[.float .f64 x] h fun v h' => ∃ (rV : Nat), Sy h [] h' [] ∧ v = .float .f64 rV ∧ R rV
theorem Ok143.mono {x} {R R' : Nat → Prop} (H : Ok143 x R) (kz : ∀ rV, R rV → R' rV) : Ok143 x R' :=
  fun h  hp => (H h  hp).mono fun _ _ ⟨rV, P, e, q⟩ => ⟨rV, P, e, kz _ q⟩

def T143 (x : Nat) (R : Nat → Prop) : Prop :=
  cnd ((FloatKind.f64).format.order x x != some .eq)
    (Ok203 (fun r =>
    R r))
    (cnd ((FloatKind.f64).format.order x 0 == some .eq)
      (R 0)
      (R x))

theorem ok143 {x} {R : Nat → Prop} (T : T143 x R) : Ok143 x R := by
  intro h  H
  have Y : Sy h [] h _ := Sy.startM H rfl
  apply calls143
  unfold S143
  unfold T143 at T
  refine cnd_imp T (fun T => ?_) (fun T => ?_)
  · refine callX_sy (T _ (Hp.nil _)) (fun _ _ ⟨_, p, _⟩ => p.fr) alln ?_
    rintro v hv ⟨r, PP, rfl, T⟩
    have Y : Sy _ _ hv [] := Y.gr PP.fr
    clear PP
    refine ⟨r, rfl, ?_⟩
    exact ⟨_, Y.pick [] rfl, rfl, T⟩
  · refine cnd_imp T (fun T => ?_) (fun T => ?_)
    · exact ⟨_, Y.pick [] rfl, rfl, T⟩
    · exact ⟨_, Y.pick [] rfl, rfl, T⟩

/-- tracery/traceryref28.Rounds -/
def S47 (g : Int) (gA : Option Addr) (gL gC : Nat) (atA : Option Addr) (atL atC : Nat) (heldA : Option Addr) (heldL heldC : Nat) (k : Int) (h : Heap) (R : Value → Heap → Prop) : Prop :=
  let hv : Heap := h.push (.cells #[.int .i64 g, .slice gA gL gC] 26)
  let K := fun (hv3 : Heap) =>
    (R (.tuple #[.slice none 0 0, .int .i64 1]) hv3)
  callX Try.prog 43 #[.agg #[.int .i64 g, .slice gA gL gC]] hv [h.size] fun v hv2 =>
  ∃ r : Bool, v = .bool r ∧
  cnd (!r)
    (K hv2)
    (cnd (((atL : Nat) : Int) != g)
      (K hv2)
      (cnd (((heldL : Nat) : Int) != g)
        (K hv2)
        (cnd (decide (k < (0 : Int)))
          (R (.tuple #[.slice none 0 0, .int .i64 1]) hv2)
          (cnd (decide (k > (4096 : Int)))
            (R (.tuple #[.slice none 0 0, .int .i64 3]) hv2)
            (cnd (decide ((IntKind.i64.wrap (k * (IntKind.i64.wrap (g + (IntKind.i64.wrap ((2 : Int) * ((gL : Nat) : Int))))))) > (16777216 : Int)))
              (R (.tuple #[.slice none 0 0, .int .i64 3]) hv2)
              (∃ xs : List Value, Reads hv2 2 atA atL xs ∧ (atA = none → atC = 0) ∧ (∀ v ∈ xs, v.oneCell' = true) ∧ ∃ old, Own hv2 56 2 none 0 0 old ∧ (∀ b ∈ ([h.size] : List Nat), b ∉ blkOf none) ∧ (0 + atL) * 16 ≤ 140737488355328 ∧ (0 + atL) ≤ maxLen ∧
              ∀ sA sC hv4, Own hv4 56 2 sA (0 + atL) sC (old ++ xs) → Fr (blkOf none) hv2 hv4 → ((sA = none ∧ sC = 0) ∨ ∃ g, sA = some ⟨g, 0, none⟩ ∧ hv2.size ≤ g) →
              callX Try.prog 54 #[.agg #[.int .i64 g, .slice gA gL gC]] hv4 [h.size] fun v2 hv5 =>
              ∃ (rA : Option Addr) (rL rC : Nat), v2 = .slice rA rL rC ∧
              ∃ (Iv : List Value → Heap → Prop) (m : List Value → Heap → Nat), Iv [.slice sA (0 + atL) sC, .int .i64 0] hv5 ∧ -- loop 0: ['now', 'i']
              ∀ (nowA : Option Addr) (nowL nowC : Nat), ∀ i : Int, ∀ hv6, Iv [.slice nowA nowL nowC, .int .i64 i] hv6 →
              cnd (decide (i < k))
                (∃ xs2 : List Value, Reads hv6 2 nowA nowL xs2 ∧ (nowA = none → nowC = 0) ∧ (∀ v ∈ xs2, v.oneCell' = true) ∧ ∃ old2, Own hv6 56 2 none 0 0 old2 ∧ (∀ b ∈ ([h.size] : List Nat), b ∉ blkOf none) ∧ (0 + nowL) * 16 ≤ 140737488355328 ∧ (0 + nowL) ≤ maxLen ∧
                ∀ sA2 sC2 hv7, Own hv7 56 2 sA2 (0 + nowL) sC2 (old2 ++ xs2) → Fr (blkOf none) hv6 hv7 → ((sA2 = none ∧ sC2 = 0) ∨ ∃ g, sA2 = some ⟨g, 0, none⟩ ∧ hv6.size ≤ g) →
                ∃ (Iv2 : List Value → Heap → Prop) (m2 : List Value → Heap → Nat), Iv2 [.int .i64 0] hv7 ∧ -- loop 2: ['v']
                ∀ v3 : Int, ∀ hv8, Iv2 [.int .i64 v3] hv8 →
                cnd (decide (v3 < g))
                  (∃ Jv : List Value → Heap → Prop, -- block 3 []
                  ( ∃ b o, heldA = some ⟨b, o, none⟩ ∧ 0 ≤ v3 ∧ v3 < (heldL : Nat) ∧ ∃ x : Bool, hcell hv8 b (o + (Int.toNat v3) * 1) = some (.bool x) ∧ cnd x
                     (Jv [] hv8)
                     (∃ b2 o2, rA = some ⟨b2, o2, none⟩ ∧ 0 ≤ v3 ∧ v3 < (rL : Nat) ∧ ∃ (xA : Option Addr) (xL xC : Nat), hcell hv8 b2 (o2 + (Int.toNat v3) * 1) = some (.slice xA xL xC) ∧ cnd (((xL : Nat) : Int) == (0 : Int))
                       (Jv [] hv8)
                       (let K2 := fun (p : Nat) (x7 : Nat) (x8 : Nat) (hv13 : Heap) =>
                         (let hv14 : Heap := hset (hset hv13 p 0 (.float .f64 x7)) p (0 + 1) (.float .f64 x8)
                         ∃ (Iv3 : List Value → Heap → Prop) (m3 : List Value → Heap → Nat), Iv3 [.int .i64 1, .float .f64 x7, .float .f64 x8] hv14 ∧ -- loop 4: ['j']
                         ∀ j : Int, ∀ c0 : Nat, ∀ c1 : Nat, ∀ hv15, Iv3 [.int .i64 j, .float .f64 c0, .float .f64 c1] hv15 →
                         ∃ b7 o7, rA = some ⟨b7, o7, none⟩ ∧ 0 ≤ v3 ∧ v3 < (rL : Nat) ∧ ∃ (xA3 : Option Addr) (xL3 xC3 : Nat), hcell hv15 b7 (o7 + (Int.toNat v3) * 1) = some (.slice xA3 xL3 xC3) ∧ cnd (decide (j < ((xL3 : Nat) : Int)))
                           (let K3 := fun (p2 : Nat) (x14 : Nat) (x15 : Nat) (hv20 : Heap) =>
                             (let hv21 : Heap := hset (hset hv20 p2 0 (.float .f64 x14)) p2 (0 + 1) (.float .f64 x15)
                             ∀ r6, FRes .f64 c0 x14 ((FloatKind.f64).format.add c0 x14) r6 → let hv22 : Heap := hset hv21 p 0 (.float .f64 r6)
                             ∀ r7, FRes .f64 c1 x15 ((FloatKind.f64).format.add c1 x15) r7 → let hv23 : Heap := hset hv22 p 1 (.float .f64 r7)
                             Iv3 [.int .i64 (IntKind.i64.wrap (j + (1 : Int))), .float .f64 r6, .float .f64 r7] hv23 ∧ m3 [.int .i64 (IntKind.i64.wrap (j + (1 : Int))), .float .f64 r6, .float .f64 r7] hv23 < m3 [.int .i64 j, .float .f64 c0, .float .f64 c1] hv15)
                           ∃ b8 o8, rA = some ⟨b8, o8, none⟩ ∧ 0 ≤ v3 ∧ v3 < (rL : Nat) ∧ ∃ (xA4 : Option Addr) (xL4 xC4 : Nat), hcell hv15 b8 (o8 + (Int.toNat v3) * 1) = some (.slice xA4 xL4 xC4) ∧ ∃ b9 o9, xA4 = some ⟨b9, o9, none⟩ ∧ 0 ≤ j ∧ j < (xL4 : Nat) ∧ ∃ x9 : Int, hcell hv15 b9 (o9 + (Int.toNat j) * 1) = some (.int .i64 x9) ∧ (callX Try.prog 55 #[.agg #[.int .i64 g, .slice gA gL gC], .int .i64 x9] hv15 [p, h.size] fun v6 hv16 =>
                           ∃ r4 : Int, v6 = .int .i64 r4 ∧
                           Fr [] hv15 hv16 ∧
                           ∃ b10 o10, nowA = some ⟨b10, o10, none⟩ ∧ 0 ≤ r4 ∧ r4 < (nowL : Nat) ∧ ∃ x10 : Nat, hcell hv15 b10 (o10 + (Int.toNat r4) * 2) = some (.float .f64 x10) ∧ ∃ x11 : Nat, hcell hv15 b10 ((o10 + (Int.toNat r4) * 2) + 1) = some (.float .f64 x11) ∧ let hv17 : Heap := hv16.push (.cells #[.float .f64 0, .float .f64 0] 56)
                           Fr [] hv15 hv17 ∧
                           K3 hv16.size x10 x11 hv17)
                           ∧ ( let hv18 : Heap := hv15.push (.cells #[.float .f64 0, .float .f64 0] 56)
                            Fr [] hv15 hv18 ∧
                            callX Try.prog 55 #[.agg #[.int .i64 g, .slice gA gL gC], .int .i64 x9] hv18 [hv15.size, p, h.size] fun v7 hv19 =>
                            ∃ r5 : Int, v7 = .int .i64 r5 ∧
                            Fr [] hv15 hv19 ∧
                            ∃ b11 o11, nowA = some ⟨b11, o11, none⟩ ∧ 0 ≤ r5 ∧ r5 < (nowL : Nat) ∧ ∃ x12 : Nat, hcell hv15 b11 (o11 + (Int.toNat r5) * 2) = some (.float .f64 x12) ∧ ∃ x13 : Nat, hcell hv15 b11 ((o11 + (Int.toNat r5) * 2) + 1) = some (.float .f64 x13) ∧ K3 hv15.size x12 x13 hv19))
                           (∃ b12 o12, rA = some ⟨b12, o12, none⟩ ∧ 0 ≤ v3 ∧ v3 < (rL : Nat) ∧ ∃ (xA5 : Option Addr) (xL5 xC5 : Nat), hcell hv15 b12 (o12 + (Int.toNat v3) * 1) = some (.slice xA5 xL5 xC5) ∧ (∀ r8, FRes .f64 c0 ((FloatKind.f64).nearest ((xL5 : Nat) : Int)) ((FloatKind.f64).format.div c0 ((FloatKind.f64).nearest ((xL5 : Nat) : Int))) r8 → Fr [] hv15 hv15 ∧
                           (callX Try.prog 143 #[.float .f64 r8] hv15 [p, h.size] fun v8 hv24 =>
                           ∃ r9 : Nat, v8 = .float .f64 r9 ∧
                           Fr [] hv15 hv24 ∧
                           ∀ r10, FRes .f64 c1 ((FloatKind.f64).nearest ((xL5 : Nat) : Int)) ((FloatKind.f64).format.div c1 ((FloatKind.f64).nearest ((xL5 : Nat) : Int))) r10 → Fr [] hv15 hv24 ∧
                           callX Try.prog 143 #[.float .f64 r10] hv24 [p, h.size] fun v9 hv25 =>
                           ∃ r11 : Nat, v9 = .float .f64 r11 ∧
                           Fr [] hv15 hv25 ∧
                           ∃ b13 o13, sA2 = some ⟨b13, o13, none⟩ ∧ 0 ≤ v3 ∧ v3 < ((0 + nowL) : Nat) ∧ b13 ≠ p ∧ b13 ≠ h.size ∧ (∃ u, hcell hv25 b13 (o13 + (Int.toNat v3) * 2) = some u) ∧ hfree hv25 b13 (o13 + (Int.toNat v3) * 2) = true ∧ (∃ u, hcell hv25 b13 ((o13 + (Int.toNat v3) * 2) + 1) = some u) ∧ hfree hv25 b13 ((o13 + (Int.toNat v3) * 2) + 1) = true ∧ let hv30 : Heap := hset (hset hv25 b13 (o13 + (Int.toNat v3) * 2) (.float .f64 r9)) b13 ((o13 + (Int.toNat v3) * 2) + 1) (.float .f64 r11)
                           Jv [] hv30)
                           ∧ ( ∀ r12, FRes .f64 c1 ((FloatKind.f64).nearest ((xL5 : Nat) : Int)) ((FloatKind.f64).format.div c1 ((FloatKind.f64).nearest ((xL5 : Nat) : Int))) r12 → Fr [] hv15 hv15 ∧
                            callX Try.prog 143 #[.float .f64 r8] hv15 [p, h.size] fun v10 hv26 =>
                            ∃ r13 : Nat, v10 = .float .f64 r13 ∧
                            Fr [] hv15 hv26 ∧
                            callX Try.prog 143 #[.float .f64 r12] hv26 [p, h.size] fun v11 hv27 =>
                            ∃ r14 : Nat, v11 = .float .f64 r14 ∧
                            Fr [] hv15 hv27 ∧
                            ∃ b14 o14, sA2 = some ⟨b14, o14, none⟩ ∧ 0 ≤ v3 ∧ v3 < ((0 + nowL) : Nat) ∧ b14 ≠ p ∧ b14 ≠ h.size ∧ (∃ u, hcell hv27 b14 (o14 + (Int.toNat v3) * 2) = some u) ∧ hfree hv27 b14 (o14 + (Int.toNat v3) * 2) = true ∧ (∃ u, hcell hv27 b14 ((o14 + (Int.toNat v3) * 2) + 1) = some u) ∧ hfree hv27 b14 ((o14 + (Int.toNat v3) * 2) + 1) = true ∧ let hv31 : Heap := hset (hset hv27 b14 (o14 + (Int.toNat v3) * 2) (.float .f64 r13)) b14 ((o14 + (Int.toNat v3) * 2) + 1) (.float .f64 r14)
                            Jv [] hv31))
                           ∧ ( ∀ r15, FRes .f64 c1 ((FloatKind.f64).nearest ((xL5 : Nat) : Int)) ((FloatKind.f64).format.div c1 ((FloatKind.f64).nearest ((xL5 : Nat) : Int))) r15 → Fr [] hv15 hv15 ∧
                            ∀ r16, FRes .f64 c0 ((FloatKind.f64).nearest ((xL5 : Nat) : Int)) ((FloatKind.f64).format.div c0 ((FloatKind.f64).nearest ((xL5 : Nat) : Int))) r16 → Fr [] hv15 hv15 ∧
                            callX Try.prog 143 #[.float .f64 r16] hv15 [p, h.size] fun v12 hv28 =>
                            ∃ r17 : Nat, v12 = .float .f64 r17 ∧
                            Fr [] hv15 hv28 ∧
                            callX Try.prog 143 #[.float .f64 r15] hv28 [p, h.size] fun v13 hv29 =>
                            ∃ r18 : Nat, v13 = .float .f64 r18 ∧
                            Fr [] hv15 hv29 ∧
                            ∃ b15 o15, sA2 = some ⟨b15, o15, none⟩ ∧ 0 ≤ v3 ∧ v3 < ((0 + nowL) : Nat) ∧ b15 ≠ p ∧ b15 ≠ h.size ∧ (∃ u, hcell hv29 b15 (o15 + (Int.toNat v3) * 2) = some u) ∧ hfree hv29 b15 (o15 + (Int.toNat v3) * 2) = true ∧ (∃ u, hcell hv29 b15 ((o15 + (Int.toNat v3) * 2) + 1) = some u) ∧ hfree hv29 b15 ((o15 + (Int.toNat v3) * 2) + 1) = true ∧ let hv32 : Heap := hset (hset hv29 b15 (o15 + (Int.toNat v3) * 2) (.float .f64 r17)) b15 ((o15 + (Int.toNat v3) * 2) + 1) (.float .f64 r18)
                            Jv [] hv32)))
                       ∃ b3 o3, rA = some ⟨b3, o3, none⟩ ∧ 0 ≤ v3 ∧ v3 < (rL : Nat) ∧ ∃ (xA2 : Option Addr) (xL2 xC2 : Nat), hcell hv8 b3 (o3 + (Int.toNat v3) * 1) = some (.slice xA2 xL2 xC2) ∧ ∃ b4 o4, xA2 = some ⟨b4, o4, none⟩ ∧ 0 ≤ (0 : Int) ∧ (0 : Int) < (xL2 : Nat) ∧ ∃ x2 : Int, hcell hv8 b4 (o4 + (Int.toNat (0 : Int)) * 1) = some (.int .i64 x2) ∧ (callX Try.prog 55 #[.agg #[.int .i64 g, .slice gA gL gC], .int .i64 x2] hv8 [h.size] fun v4 hv9 =>
                       ∃ r2 : Int, v4 = .int .i64 r2 ∧
                       Fr [] hv8 hv9 ∧
                       ∃ b5 o5, nowA = some ⟨b5, o5, none⟩ ∧ 0 ≤ r2 ∧ r2 < (nowL : Nat) ∧ ∃ x3 : Nat, hcell hv8 b5 (o5 + (Int.toNat r2) * 2) = some (.float .f64 x3) ∧ ∃ x4 : Nat, hcell hv8 b5 ((o5 + (Int.toNat r2) * 2) + 1) = some (.float .f64 x4) ∧ let hv10 : Heap := hv9.push (.cells #[.float .f64 0, .float .f64 0] 56)
                       Fr [] hv8 hv10 ∧
                       K2 hv9.size x3 x4 hv10)
                       ∧ ( let hv11 : Heap := hv8.push (.cells #[.float .f64 0, .float .f64 0] 56)
                        Fr [] hv8 hv11 ∧
                        callX Try.prog 55 #[.agg #[.int .i64 g, .slice gA gL gC], .int .i64 x2] hv11 [hv8.size, h.size] fun v5 hv12 =>
                        ∃ r3 : Int, v5 = .int .i64 r3 ∧
                        Fr [] hv8 hv12 ∧
                        ∃ b6 o6, nowA = some ⟨b6, o6, none⟩ ∧ 0 ≤ r3 ∧ r3 < (nowL : Nat) ∧ ∃ x5 : Nat, hcell hv8 b6 (o6 + (Int.toNat r3) * 2) = some (.float .f64 x5) ∧ ∃ x6 : Nat, hcell hv8 b6 ((o6 + (Int.toNat r3) * 2) + 1) = some (.float .f64 x6) ∧ K2 hv8.size x5 x6 hv12)))) ∧
                  ∀ hv33, Jv [] hv33 →
                  Iv2 [.int .i64 (IntKind.i64.wrap (v3 + (1 : Int)))] hv33 ∧ m2 [.int .i64 (IntKind.i64.wrap (v3 + (1 : Int)))] hv33 < m2 [.int .i64 v3] hv8)
                  (Iv [.slice sA2 (0 + nowL) sC2, .int .i64 (IntKind.i64.wrap (i + (1 : Int)))] hv8 ∧ m [.slice sA2 (0 + nowL) sC2, .int .i64 (IntKind.i64.wrap (i + (1 : Int)))] hv8 < m [.slice nowA nowL nowC, .int .i64 i] hv6))
                (R (.tuple #[.slice nowA nowL nowC, .int .i64 0]) hv6)))))))

theorem calls47 {h : Heap} {R : Value → Heap → Prop} (g : Int) (gA : Option Addr) (gL gC : Nat) (atA : Option Addr) (atL atC : Nat) (heldA : Option Addr) (heldL heldC : Nat) (k : Int) (H : S47 g gA gL gC atA atL atC heldA heldL heldC k h R) : CallsH Try.prog 47 #[.agg #[.int .i64 g, .slice gA gL gC], .slice atA atL atC, .slice heldA heldL heldC, .int .i64 k] h R := by
  have e : S47 g gA gL gC atA atL atC heldA heldL heldC k h R = FX (envX [4, 15, 17] 149) { loops := [(0, ⟨[2, 3, 4, 11], [10, 12], [4], []⟩), (2, ⟨[2, 3, 4, 10, 11, 12, 13], [14], [4], []⟩), (4, ⟨[2, 3, 4, 10, 11, 12, 13, 14, 15], [16], [4], [15]⟩)], joins := [], blocks := [(3, ⟨[2, 3, 4, 10, 11, 12, 13, 14], [], [4], []⟩)], draws := [(15, ⟨12, false⟩), (19, ⟨13, false⟩), (23, ⟨14, false⟩)] } Try.f47 (Try.f47.body.getD .skip) [.agg #[.int .i64 g, .slice gA gL gC], .slice atA atL atC, .slice heldA heldL heldC, .int .i64 k] h R := by kernel_rfl
  exact calls_of_FX (envX_ok _ _) Try.func47 (by kernel_rfl) (by kernel_rfl) (by kernel_rfl) (e ▸ H)

/-- tracery/traceryref28.Rounds -/
def Ok47 (g : Int) (edgesV : List (Int × Int)) (atV : List (Nat × Nat)) (heldV : List Bool) (k : Int) (R : List (Nat × Nat) → Int → Prop) : Prop :=
  ∀ (h : Heap) (gA : Option Addr) (gL gC : Nat) (atA : Option Addr) (atL atC : Nat) (heldA : Option Addr) (heldL heldC : Nat), Hp h [Ck.vw eP gA gL gC edgesV, Ck.vw eFF atA atL atC atV, Ck.vw eB heldA heldL heldC heldV] → CallsH Try.prog 47 #[.agg #[.int .i64 g, .slice gA gL gC], .slice atA atL atC, .slice heldA heldL heldC, .int .i64 k] h fun v h' => ∃ (raVA : Option Addr) (raVL raVC : Nat) (raV : List (Nat × Nat)) (rbV : Int), Sy h [] h' [Ck.sl eFF 56 raVA raVL raVC raV] ∧ v = .tuple #[.slice raVA raVL raVC, .int .i64 rbV] ∧ R raV rbV
theorem Ok47.mono {g edgesV atV heldV k} {R R' : List (Nat × Nat) → Int → Prop} (H : Ok47 g edgesV atV heldV k R) (kz : ∀ raV rbV, R raV rbV → R' raV rbV) : Ok47 g edgesV atV heldV k R' :=
  fun h gA gL gC atA atL atC heldA heldL heldC hp => (H h gA gL gC atA atL atC heldA heldL heldC hp).mono fun _ _ ⟨raVA, raVL, raVC, raV, rbV, P, e, q⟩ => ⟨raVA, raVL, raVC, raV, rbV, P, e, kz _ _ q⟩

def T47 (g : Int) (edgesV : List (Int × Int)) (atV : List (Nat × Nat)) (heldV : List Bool) (k : Int) (R : List (Nat × Nat) → Int → Prop) : Prop :=
  ∃ Jv_2 : Prop,
  ( Ok43 g edgesV (fun r =>
   cnd (!r)
     (Jv_2)
     (cnd (((atV.length : Nat) : Int) != g)
       (Jv_2)
       (cnd (((heldV.length : Nat) : Int) != g)
         (Jv_2)
         (cnd (decide (k < (0 : Int)))
           (R ([] : List (Nat × Nat)) 1)
           (cnd (decide (k > (4096 : Int)))
             (R ([] : List (Nat × Nat)) 3)
             (cnd (decide ((IntKind.i64.wrap (k * (IntKind.i64.wrap (g + (IntKind.i64.wrap ((2 : Int) * ((edgesV.length : Nat) : Int))))))) > (16777216 : Int)))
               (R ([] : List (Nat × Nat)) 3)
               ((0 + atV.length) < 1000000000000 ∧ Ok54 g edgesV (fun r_2 =>
               ∃ (Iv : List (Nat × Nat) → Int → Prop) (m : List (Nat × Nat) → Int → Nat), Iv (([] : List (Nat × Nat)) ++ atV) 0 ∧
               ∀ now : List (Nat × Nat), ∀ i : Int, Iv now i →
               cnd (decide (i < k))
                 ((0 + now.length) < 1000000000000 ∧ ∃ (Iv2 : Int → List (Nat × Nat) → Prop) (m2 : Int → List (Nat × Nat) → Nat), Iv2 0 (([] : List (Nat × Nat)) ++ now) ∧
                 ∀ v3 : Int, ∀ s : List (Nat × Nat), Iv2 v3 s →
                 cnd (decide (v3 < g))
                   (∃ Jv : List (Nat × Nat) → Prop,
                   ( 0 ≤ v3 ∧ v3 < ((heldV.length : Nat) : Int) ∧ ∀ held : Bool, heldV[(Int.toNat v3)]? = some held → cnd held
                      (Jv s)
                      (0 ≤ v3 ∧ v3 < ((r_2.length : Nat) : Int) ∧ ∀ r_3 : List Int, r_2[(Int.toNat v3)]? = some r_3 → cnd (((r_3.length : Nat) : Int) == (0 : Int))
                        (Jv s)
                        (∃ Jv_3 : Nat → Nat → Prop,
                        ( 0 ≤ v3 ∧ v3 < ((r_2.length : Nat) : Int) ∧ ∀ r_7 : List Int, r_2[(Int.toNat v3)]? = some r_7 → 0 ≤ (0 : Int) ∧ (0 : Int) < ((r_7.length : Nat) : Int) ∧ ∀ x_3 : Int, r_7[(Int.toNat (0 : Int))]? = some x_3 → Ok55 g edgesV x_3 (fun r2 =>
                         0 ≤ r2 ∧ r2 < ((now.length : Nat) : Int) ∧ ∀ now_4 : (Nat × Nat), now[(Int.toNat r2)]? = some now_4 → Jv_3 now_4.1 now_4.2)) ∧
                        ∀ x7 : Nat, ∀ x8 : Nat, Jv_3 x7 x8 →
                        ∃ (Iv3 : Int → Nat → Nat → Prop) (m3 : Int → Nat → Nat → Nat), Iv3 1 x7 x8 ∧
                        ∀ j : Int, ∀ c0 : Nat, ∀ c1 : Nat, Iv3 j c0 c1 →
                        cnd (decide (j < ((r_3.length : Nat) : Int)))
                          (∃ Jv_4 : Nat → Nat → Prop,
                          ( 0 ≤ v3 ∧ v3 < ((r_2.length : Nat) : Int) ∧ ∀ r_5 : List Int, r_2[(Int.toNat v3)]? = some r_5 → 0 ≤ j ∧ j < ((r_5.length : Nat) : Int) ∧ ∀ x_2 : Int, r_5[(Int.toNat j)]? = some x_2 → Ok55 g edgesV x_2 (fun r4 =>
                           0 ≤ r4 ∧ r4 < ((now.length : Nat) : Int) ∧ ∀ now_2 : (Nat × Nat), now[(Int.toNat r4)]? = some now_2 → Jv_4 now_2.1 now_2.2)) ∧
                          ∀ x14 : Nat, ∀ x15 : Nat, Jv_4 x14 x15 →
                          ∀ r6 : Nat, FRes .f64 c0 x14 ((FloatKind.f64).format.add c0 x14) r6 → ∀ r7 : Nat, FRes .f64 c1 x15 ((FloatKind.f64).format.add c1 x15) r7 → Iv3 (IntKind.i64.wrap (j + (1 : Int))) r6 r7 ∧ m3 (IntKind.i64.wrap (j + (1 : Int))) r6 r7 < m3 j c0 c1)
                          ((∀ r8 : Nat, FRes .f64 c0 ((FloatKind.f64).nearest ((r_3.length : Nat) : Int)) ((FloatKind.f64).format.div c0 ((FloatKind.f64).nearest ((r_3.length : Nat) : Int))) r8 → (Ok143 r8 (fun r9 =>
                          ∀ r10 : Nat, FRes .f64 c1 ((FloatKind.f64).nearest ((r_3.length : Nat) : Int)) ((FloatKind.f64).format.div c1 ((FloatKind.f64).nearest ((r_3.length : Nat) : Int))) r10 → Ok143 r10 (fun r11 =>
                          0 ≤ v3 ∧ v3 < (((0 + now.length) : Nat) : Int) ∧ Jv (s.set (Int.toNat v3) (r9, r11))))) ∧ (∀ r12 : Nat, FRes .f64 c1 ((FloatKind.f64).nearest ((r_3.length : Nat) : Int)) ((FloatKind.f64).format.div c1 ((FloatKind.f64).nearest ((r_3.length : Nat) : Int))) r12 → Ok143 r8 (fun r13 =>
                          Ok143 r12 (fun r14 =>
                          0 ≤ v3 ∧ v3 < (((0 + now.length) : Nat) : Int) ∧ Jv (s.set (Int.toNat v3) (r13, r14)))))) ∧ (∀ r15 : Nat, FRes .f64 c1 ((FloatKind.f64).nearest ((r_3.length : Nat) : Int)) ((FloatKind.f64).format.div c1 ((FloatKind.f64).nearest ((r_3.length : Nat) : Int))) r15 → ∀ r16 : Nat, FRes .f64 c0 ((FloatKind.f64).nearest ((r_3.length : Nat) : Int)) ((FloatKind.f64).format.div c0 ((FloatKind.f64).nearest ((r_3.length : Nat) : Int))) r16 → Ok143 r16 (fun r17 =>
                          Ok143 r15 (fun r18 =>
                          0 ≤ v3 ∧ v3 < (((0 + now.length) : Nat) : Int) ∧ Jv (s.set (Int.toNat v3) (r17, r18))))))))) ∧
                   ∀ s_2 : List (Nat × Nat), Jv s_2 →
                   Iv2 (IntKind.i64.wrap (v3 + (1 : Int))) s_2 ∧ m2 (IntKind.i64.wrap (v3 + (1 : Int))) s_2 < m2 v3 s)
                   (Iv s (IntKind.i64.wrap (i + (1 : Int))) ∧ m s (IntKind.i64.wrap (i + (1 : Int))) < m now i))
                 (R now 0)))))))))) ∧
  (Jv_2 →
  R ([] : List (Nat × Nat)) 1)

theorem ok47 {g edgesV atV heldV k} {R : List (Nat × Nat) → Int → Prop} (T : T47 g edgesV atV heldV k R) : Ok47 g edgesV atV heldV k R := by
  intro h gA gL gC atA atL atC heldA heldL heldC H
  have Y : Sy h [] h _ := Sy.startM H rfl
  obtain rfl := Y.lenV 0 rfl
  obtain rfl := Y.lenV 1 rfl
  obtain rfl := Y.lenV 2 rfl
  apply calls47
  unfold S47
  unfold T47 at T
  intro hv
  have Y : Sy _ _ hv [_, _, _, _] := Y.junk _
  clear_value hv
  obtain ⟨Jv_2, T0, T1⟩ := T
  obtain ⟨B, hB, _⟩ := Y.cut [] [0, 1, 2, 3] rfl
  intro K
  have hK : ∀  (hv3 : Heap), (Sy h [] hv3 ([] ++ B) ∧ Jv_2) → K hv3 := by
    subst hB
    clear T0 Y
    rintro hv3 ⟨Y, T⟩
    replace T := T1 T
    have Y : Sy _ _ _ [_, _, _, _] := Y
    unfold K
    have Y : Sy _ _ _ [_, _, _, _, _] := Y.nilS eFF 56
    exact ⟨_, _, _, _, _, Y.pick [4] rfl, rfl, T⟩
  subst hB
  replace T := T0
  clear T0 T1
  refine callX_sy (T _ _ _ _ (Y.pick [0] rfl).hp) (fun _ _ ⟨_, p, _⟩ => p.fr) (allc (fun h => by cases h) alln) ?_
  rintro v hv2 ⟨r, PP, rfl, T⟩
  have Y : Sy _ _ hv2 [_, _, _, _] := Y.gr PP.fr
  clear PP
  refine ⟨r, rfl, ?_⟩
  refine cnd_imp T (fun T => ?_) (fun T => ?_)
  · exact hK _ ⟨Y.pick [0, 1, 2, 3] rfl, T⟩
  · refine cnd_imp T (fun T => ?_) (fun T => ?_)
    · exact hK _ ⟨Y.pick [0, 1, 2, 3] rfl, T⟩
    · refine cnd_imp T (fun T => ?_) (fun T => ?_)
      · exact hK _ ⟨Y.pick [0, 1, 2, 3] rfl, T⟩
      · refine cnd_imp T (fun T => ?_) (fun T => ?_)
        · have Y : Sy _ _ _ [_, _, _, _, _] := Y.nilS eFF 56
          exact ⟨_, _, _, _, _, Y.pick [4] rfl, rfl, T⟩
        · refine cnd_imp T (fun T => ?_) (fun T => ?_)
          · have Y : Sy _ _ _ [_, _, _, _, _] := Y.nilS eFF 56
            exact ⟨_, _, _, _, _, Y.pick [4] rfl, rfl, T⟩
          · refine cnd_imp T (fun T => ?_) (fun T => ?_)
            · have Y : Sy _ _ _ [_, _, _, _, _] := Y.nilS eFF 56
              exact ⟨_, _, _, _, _, Y.pick [4] rfl, rfl, T⟩
            · refine ⟨_, Y.readsV 1 rfl, (Y.capV 1 rfl).2, En.l_one _, ?_⟩
              have Y : Sy _ _ _ [_, _, _, _, _] := Y.nilS eFF 56
              obtain ⟨q, T⟩ := T
              refine ⟨_, Y.ownS 4 rfl, (allc (Y.nJ 4 3 rfl rfl rfl) alln), by omega, by simp [maxLen]; omega, ?_⟩
              intro sA sC hv4 ow fA gA
              have Y : Sy _ _ hv4 [_, _, _, _, _] := Y.appS 4 rfl atV ow fA gA rfl (by first | rfl | simp)
              refine callX_sy (T _ _ _ _ (Y.pick [0] rfl).hp) (fun _ _ ⟨_, _, _, _, _, p, _⟩ => p.fr) (allc (fun h => by cases h) alln) ?_
              rintro v2 hv5 ⟨rA, rL, rC, rH, r_2, PP, rfl, T⟩
              have Y : Sy _ _ hv5 [_, _, _, _, _, _] := Y.callV PP ⟨rfl, trivial⟩
              clear PP
              obtain rfl := Y.lenR 5 rfl
              refine ⟨_, _, _, rfl, ?_⟩
              obtain ⟨Iv, m, T0, T1⟩ := T
              obtain ⟨B_2, hB_2, YB⟩ := Y.cut [4] [0, 1, 2, 3, 5] rfl
              obtain ⟨JJ, hJJ⟩ : ∃ JJ : Nat → List Value → Heap → Prop, JJ = (fun k_2 lz h' => ∃ (nowA : Option Addr) (nowL nowC : Nat) (now : List (Nat × Nat)) (i : Int), lz = [.slice nowA nowL nowC, .int .i64 i] ∧ Sy h [] h' ([Ck.sl eFF 56 nowA nowL nowC now] ++ B_2) ∧ Iv now i ∧ m now i = k_2) := ⟨_, rfl⟩
              refine ⟨fun lz h' => ∃ k_2, JJ k_2 lz h', Lm JJ, ?_, ?_⟩
              · subst hJJ hB_2
                exact ⟨_, _, _, _, _, _, rfl, YB, T0, rfl⟩
              · clear YB T0 Y
                intro nowA nowL nowC i hv6 hI
                obtain ⟨k_2, hI, hm⟩ := loopIn hI
                subst hJJ hB_2
                obtain ⟨nowA, nowL, nowC, now, i, e, Y, T, rfl⟩ := hI
                cases e
                obtain rfl := Y.lenS 0 rfl
                replace T := T1 now i T
                have Y : Sy _ _ _ [_, _, _, _, _, _] := Y
                refine cnd_imp T (fun T => ?_) (fun T => ?_)
                · refine ⟨_, Y.readsS 0 rfl, (Y.capS 0 rfl).2.2, En.l_one _, ?_⟩
                  have Y : Sy _ _ _ [_, _, _, _, _, _, _] := Y.nilS eFF 56
                  obtain ⟨q_2, T⟩ := T
                  refine ⟨_, Y.ownS 6 rfl, (allc (Y.nJ 6 4 rfl rfl rfl) alln), by omega, by simp [maxLen]; omega, ?_⟩
                  intro sA2 sC2 hv7 ow fA gA
                  have Y : Sy _ _ hv7 [_, _, _, _, _, _, _] := Y.appS 6 rfl now ow fA gA rfl (by first | rfl | simp)
                  obtain ⟨Iv2, m2, T0, T1⟩ := T
                  obtain ⟨B_3, hB_3, YB⟩ := Y.cut [6] [0, 1, 2, 3, 4, 5] rfl
                  obtain ⟨F, hF⟩ := Y.fnS (k := 6) rfl
                  obtain ⟨JJ_2, hJJ_2⟩ : ∃ JJ_2 : Nat → List Value → Heap → Prop, JJ_2 = (fun k_3 lz h' => ∃ (v3 : Int) (s : List (Nat × Nat)), lz = [.int .i64 v3] ∧ Sy h [] h' ([F s] ++ B_3) ∧ Iv2 v3 s ∧ m2 v3 s = k_3) := ⟨_, rfl⟩
                  refine ⟨fun lz h' => ∃ k_3, JJ_2 k_3 lz h', Lm JJ_2, ?_, ?_⟩
                  · subst hJJ_2 hB_3 hF
                    exact ⟨_, _, _, rfl, YB, T0, rfl⟩
                  · clear YB T0 Y
                    intro v3 hv8 hI
                    obtain ⟨k_3, hI, hm_2⟩ := loopIn hI
                    subst hJJ_2 hB_3 hF
                    obtain ⟨v3, s, e, Y, T, rfl⟩ := hI
                    cases e
                    replace T := T1 v3 s T
                    have Y : Sy _ _ _ [_, _, _, _, _, _, _] := Y
                    refine cnd_imp T (fun T => ?_) (fun T => ?_)
                    · obtain ⟨Jv, T0, T1⟩ := T
                      obtain ⟨B_4, hB_4, _⟩ := Y.cut [] [1, 2, 3, 4, 5, 6] rfl
                      obtain ⟨F_2, hF_2⟩ := Y.fnS (k := 0) rfl
                      refine ⟨fun lz h' => ∃ (s_2 : List (Nat × Nat)), lz = [] ∧ Sy h [] h' ([F_2 s_2] ++ B_4) ∧ Jv s_2, ?_, ?_⟩
                      · subst hB_4 hF_2
                        replace T := T0
                        clear T0 T1
                        obtain ⟨q_3, q_4, T⟩ := T
                        obtain ⟨b_2, o_2, hb, hr, held, hx⟩ := Y.atV 4 rfl q_3 q_4
                        refine ⟨b_2, o_2, hb, q_3, q_4, ?_⟩
                        replace T := T held hx
                        refine ⟨_, Y.cellV 4 rfl hb (t := 0) hx rfl, ?_⟩
                        refine cnd_imp T (fun T => ?_) (fun T => ?_)
                        · exact ⟨_, rfl, Y.pick [0, 1, 2, 3, 4, 5, 6] rfl, T⟩
                        · obtain ⟨q_5, q_6, T⟩ := T
                          obtain ⟨b_3, hb_2, ho, r_3, hx_2, r_4, hr_2⟩ := Y.atR 6 rfl q_5 q_6
                          refine ⟨b_3, 0, hb_2, q_5, q_6, ?_⟩
                          replace T := T r_3 hx_2
                          refine ⟨_, _, _, Y.cellR 6 rfl hb_2 hr_2 hx_2, ?_⟩
                          refine cnd_imp T (fun T => ?_) (fun T => ?_)
                          · exact ⟨_, rfl, Y.pick [0, 1, 2, 3, 4, 5, 6] rfl, T⟩
                          · obtain ⟨Jv_3, T0, T1⟩ := T
                            obtain ⟨B_5, hB_5, _⟩ := Y.cut [] [0, 1, 2, 3, 4, 5, 6] rfl
                            intro K2
                            have hK2 : ∀ (p : Nat) (x7 : Nat) (x8 : Nat) (hv13 : Heap), (Sy h [] hv13 ([Ck.junk p] ++ B_5) ∧ Jv_3 x7 x8) → K2 p x7 x8 hv13 := by
                              subst hB_5
                              clear T0 Y
                              rintro p x7 x8 hv13 ⟨Y, T⟩
                              replace T := T1 x7 x8 T
                              have Y : Sy _ _ _ [_, _, _, _, _, _, _, _] := Y
                              unfold K2
                              intro hv14
                              have Y : Sy _ _ hv14 [_, _, _, _, _, _, _, _] := ((Y.stJ 0 rfl _ _).stJ 0 rfl _ _)
                              clear_value hv14
                              obtain ⟨Iv3, m3, T0, T1⟩ := T
                              obtain ⟨B_6, hB_6, YB⟩ := Y.cut [] [0, 1, 2, 3, 4, 5, 6, 7] rfl
                              obtain ⟨JJ_3, hJJ_3⟩ : ∃ JJ_3 : Nat → List Value → Heap → Prop, JJ_3 = (fun k_4 lz h' => ∃ (j : Int) (c0 : Nat) (c1 : Nat), lz = [.int .i64 j, .float .f64 c0, .float .f64 c1] ∧ Sy h [] h' ([] ++ B_6) ∧ Iv3 j c0 c1 ∧ m3 j c0 c1 = k_4) := ⟨_, rfl⟩
                              refine ⟨fun lz h' => ∃ k_4, JJ_3 k_4 lz h', Lm JJ_3, ?_, ?_⟩
                              · subst hJJ_3 hB_6
                                exact ⟨_, _, _, _, rfl, YB, T0, rfl⟩
                              · clear YB T0 Y
                                intro j c0 c1 hv15 hI
                                obtain ⟨k_4, hI, hm_3⟩ := loopIn hI
                                subst hJJ_3 hB_6
                                obtain ⟨j, c0, c1, e, Y, T, rfl⟩ := hI
                                cases e
                                replace T := T1 j c0 c1 T
                                have Y : Sy _ _ _ [_, _, _, _, _, _, _, _] := Y
                                refine ⟨b_3, 0, hb_2, q_5, q_6, ?_⟩
                                refine ⟨_, _, _, Y.cellR 7 rfl hb_2 hr_2 hx_2, ?_⟩
                                refine cnd_imp T (fun T => ?_) (fun T => ?_)
                                · obtain ⟨Jv_4, T0, T1⟩ := T
                                  obtain ⟨B_7, hB_7, _⟩ := Y.cut [] [0, 1, 2, 3, 4, 5, 6, 7] rfl
                                  intro K3
                                  have hK3 : ∀ (p2 : Nat) (x14 : Nat) (x15 : Nat) (hv20 : Heap), (Sy h [] hv20 ([Ck.junk p2] ++ B_7) ∧ Jv_4 x14 x15) → K3 p2 x14 x15 hv20 := by
                                    subst hB_7
                                    clear T0 Y
                                    rintro p2 x14 x15 hv20 ⟨Y, T⟩
                                    replace T := T1 x14 x15 T
                                    have Y : Sy _ _ _ [_, _, _, _, _, _, _, _, _] := Y
                                    unfold K3
                                    intro hv21
                                    have Y : Sy _ _ hv21 [_, _, _, _, _, _, _, _, _] := ((Y.stJ 0 rfl _ _).stJ 0 rfl _ _)
                                    clear_value hv21
                                    intro r6 hq
                                    replace T := T r6 hq
                                    intro hv22
                                    have Y : Sy _ _ hv22 [_, _, _, _, _, _, _, _, _] := (Y.stJ 1 rfl _ _)
                                    clear_value hv22
                                    intro r7 hq
                                    replace T := T r7 hq
                                    intro hv23
                                    have Y : Sy _ _ hv23 [_, _, _, _, _, _, _, _, _] := (Y.stJ 1 rfl _ _)
                                    clear_value hv23
                                    exact loopBack hm_3 ⟨_, _, _, rfl, Y.pick [1, 2, 3, 4, 5, 6, 7, 8] rfl, T.1, rfl⟩ T.2
                                  subst hB_7
                                  replace T := T0
                                  clear T0 T1
                                  have Y0 := Y
                                  have F : Fr [] hv15 hv15 := Fr.refl _ _
                                  obtain ⟨q_7, q_8, T⟩ := T
                                  obtain ⟨b_4, hb_3, ho_2, r_5, hx_3, r_6, hr_3⟩ := Y0.atR 7 rfl q_7 q_8
                                  refine ⟨b_4, 0, hb_3, q_7, q_8, ?_⟩
                                  replace T := T r_5 hx_3
                                  refine ⟨_, _, _, Y0.cellR 7 rfl hb_3 hr_3 hx_3, ?_⟩
                                  obtain ⟨q_9, q_10, T⟩ := T
                                  obtain ⟨b_5, hb_4, ho_3, x_2, hx_4⟩ := Y0.atRow 7 rfl hr_3 hx_3 q_9 q_10
                                  refine ⟨b_5, 0, hb_4, q_9, q_10, ?_⟩
                                  replace T := T x_2 hx_4
                                  refine ⟨_, Y0.cellRow 7 rfl hr_3 hx_3 hb_4 (t := 0) hx_4 rfl, ?_⟩
                                  refine ⟨?_, ?_⟩
                                  · refine callX_sy (T _ _ _ _ (Y.pick [3] rfl).hp) (fun _ _ ⟨_, p, _⟩ => p.fr) (allc (fun h => by cases h) (allc (fun h => by cases h) alln)) ?_
                                    rintro v6 hv16 ⟨r4, PP, rfl, T⟩
                                    have F : Fr _ _ hv16 := F.trans PP.fr.nil
                                    have fshv16 := F.size
                                    have Y : Sy _ _ hv16 [_, _, _, _, _, _, _, _] := Y.gr PP.fr
                                    clear PP
                                    refine ⟨r4, rfl, ?_⟩
                                    refine ⟨F, ?_⟩
                                    obtain ⟨q_11, q_12, T⟩ := T
                                    obtain ⟨b_6, hb_5, ho_4, now_2, hx_5⟩ := Y0.atS 2 rfl q_11 q_12
                                    refine ⟨b_6, 0, hb_5, q_11, q_12, ?_⟩
                                    replace T := T now_2 hx_5
                                    refine ⟨_, Y0.cellS 2 rfl hb_5 (t := 0) hx_5 rfl, ?_⟩
                                    refine ⟨_, Y0.cellS 2 rfl hb_5 (t := 1) hx_5 rfl, ?_⟩
                                    intro hv17
                                    have Y : Sy _ _ hv17 [_, _, _, _, _, _, _, _, _] := Y.junk _
                                    have F : Fr _ _ hv17 := F.pushr _
                                    have fshv17 := F.size
                                    clear_value hv17
                                    refine ⟨F, ?_⟩
                                    exact hK3 _ _ _ _ ⟨Y.pick [8, 0, 1, 2, 3, 4, 5, 6, 7] rfl, T⟩
                                  · intro hv18
                                    have Y : Sy _ _ hv18 [_, _, _, _, _, _, _, _, _] := Y.junk _
                                    have F : Fr _ _ hv18 := F.pushr _
                                    have fshv18 := F.size
                                    clear_value hv18
                                    refine ⟨F, ?_⟩
                                    refine callX_sy (T _ _ _ _ (Y.pick [3] rfl).hp) (fun _ _ ⟨_, p, _⟩ => p.fr) (allc (fun h => by cases h) (allc (fun h => by cases h) (allc (fun h => by cases h) alln))) ?_
                                    rintro v7 hv19 ⟨r5, PP, rfl, T⟩
                                    have F : Fr _ _ hv19 := F.trans PP.fr.nil
                                    have fshv19 := F.size
                                    have Y : Sy _ _ hv19 [_, _, _, _, _, _, _, _, _] := Y.gr PP.fr
                                    clear PP
                                    refine ⟨r5, rfl, ?_⟩
                                    refine ⟨F, ?_⟩
                                    obtain ⟨q_13, q_14, T⟩ := T
                                    obtain ⟨b_7, hb_6, ho_5, now_3, hx_6⟩ := Y0.atS 2 rfl q_13 q_14
                                    refine ⟨b_7, 0, hb_6, q_13, q_14, ?_⟩
                                    replace T := T now_3 hx_6
                                    refine ⟨_, Y0.cellS 2 rfl hb_6 (t := 0) hx_6 rfl, ?_⟩
                                    refine ⟨_, Y0.cellS 2 rfl hb_6 (t := 1) hx_6 rfl, ?_⟩
                                    exact hK3 _ _ _ _ ⟨Y.pick [8, 0, 1, 2, 3, 4, 5, 6, 7] rfl, T⟩
                                · refine ⟨b_3, 0, hb_2, q_5, q_6, ?_⟩
                                  refine ⟨_, _, _, Y.cellR 7 rfl hb_2 hr_2 hx_2, ?_⟩
                                  have Y0 := Y
                                  have F : Fr [] hv15 hv15 := Fr.refl _ _
                                  obtain ⟨T_3, T_4⟩ := T
                                  refine ⟨?_, ?_⟩
                                  · have T := T_3
                                    intro r8 hq
                                    replace T := T r8 hq
                                    refine ⟨F, ?_⟩
                                    obtain ⟨T, T_2⟩ := T
                                    refine ⟨?_, ?_⟩
                                    · have T := T
                                      refine callX_sy (T _ (Hp.nil _)) (fun _ _ ⟨_, p, _⟩ => p.fr) (allc (fun h => by cases h) (allc (fun h => by cases h) alln)) ?_
                                      rintro v8 hv24 ⟨r9, PP, rfl, T⟩
                                      have F : Fr _ _ hv24 := F.trans PP.fr.nil
                                      have fshv24 := F.size
                                      have Y : Sy _ _ hv24 [_, _, _, _, _, _, _, _] := Y.gr PP.fr
                                      clear PP
                                      refine ⟨r9, rfl, ?_⟩
                                      refine ⟨F, ?_⟩
                                      intro r10 hq
                                      replace T := T r10 hq
                                      refine ⟨F, ?_⟩
                                      refine callX_sy (T _ (Hp.nil _)) (fun _ _ ⟨_, p, _⟩ => p.fr) (allc (fun h => by cases h) (allc (fun h => by cases h) alln)) ?_
                                      rintro v9 hv25 ⟨r11, PP, rfl, T⟩
                                      have F : Fr _ _ hv25 := F.trans PP.fr.nil
                                      have fshv25 := F.size
                                      have Y : Sy _ _ hv25 [_, _, _, _, _, _, _, _] := Y.gr PP.fr
                                      clear PP
                                      refine ⟨r11, rfl, ?_⟩
                                      refine ⟨F, ?_⟩
                                      obtain ⟨q_15, q_16, T⟩ := T
                                      obtain ⟨b_8, hb_7, ho_6, s_3, hx_7⟩ := Y0.atS 1 rfl q_15 q_16
                                      refine ⟨b_8, 0, hb_7, q_15, q_16, ?_⟩
                                      refine ⟨(Y.neJ 1 0 rfl rfl rfl ho_6), (Y.neJ 1 6 rfl rfl rfl ho_6), Y.cellEx 1 rfl hb_7 (t := 0) (by omega) (by decide), Y.freeS 1 rfl hb_7 _, Y.cellEx 1 rfl hb_7 (t := 1) (by omega) (by decide), Y.freeS 1 rfl hb_7 _, ?_⟩
                                      intro hv30
                                      have Y : Sy _ _ hv30 [_, _, _, _, _, _, _, _] := Y.st2 1 rfl hb_7 (r9, r11) (by omega) rfl (fun y => ⟨(r9, y.2), rfl⟩) rfl
                                      clear_value hv30
                                      exact ⟨_, rfl, Y.pick [1, 2, 3, 4, 5, 6, 7] rfl, T⟩
                                    · have T := T_2
                                      intro r12 hq
                                      replace T := T r12 hq
                                      refine ⟨F, ?_⟩
                                      refine callX_sy (T _ (Hp.nil _)) (fun _ _ ⟨_, p, _⟩ => p.fr) (allc (fun h => by cases h) (allc (fun h => by cases h) alln)) ?_
                                      rintro v10 hv26 ⟨r13, PP, rfl, T⟩
                                      have F : Fr _ _ hv26 := F.trans PP.fr.nil
                                      have fshv26 := F.size
                                      have Y : Sy _ _ hv26 [_, _, _, _, _, _, _, _] := Y.gr PP.fr
                                      clear PP
                                      refine ⟨r13, rfl, ?_⟩
                                      refine ⟨F, ?_⟩
                                      refine callX_sy (T _ (Hp.nil _)) (fun _ _ ⟨_, p, _⟩ => p.fr) (allc (fun h => by cases h) (allc (fun h => by cases h) alln)) ?_
                                      rintro v11 hv27 ⟨r14, PP, rfl, T⟩
                                      have F : Fr _ _ hv27 := F.trans PP.fr.nil
                                      have fshv27 := F.size
                                      have Y : Sy _ _ hv27 [_, _, _, _, _, _, _, _] := Y.gr PP.fr
                                      clear PP
                                      refine ⟨r14, rfl, ?_⟩
                                      refine ⟨F, ?_⟩
                                      obtain ⟨q_17, q_18, T⟩ := T
                                      obtain ⟨b_9, hb_8, ho_7, s_4, hx_8⟩ := Y0.atS 1 rfl q_17 q_18
                                      refine ⟨b_9, 0, hb_8, q_17, q_18, ?_⟩
                                      refine ⟨(Y.neJ 1 0 rfl rfl rfl ho_7), (Y.neJ 1 6 rfl rfl rfl ho_7), Y.cellEx 1 rfl hb_8 (t := 0) (by omega) (by decide), Y.freeS 1 rfl hb_8 _, Y.cellEx 1 rfl hb_8 (t := 1) (by omega) (by decide), Y.freeS 1 rfl hb_8 _, ?_⟩
                                      intro hv31
                                      have Y : Sy _ _ hv31 [_, _, _, _, _, _, _, _] := Y.st2 1 rfl hb_8 (r13, r14) (by omega) rfl (fun y => ⟨(r13, y.2), rfl⟩) rfl
                                      clear_value hv31
                                      exact ⟨_, rfl, Y.pick [1, 2, 3, 4, 5, 6, 7] rfl, T⟩
                                  · have T := T_4
                                    intro r15 hq
                                    replace T := T r15 hq
                                    refine ⟨F, ?_⟩
                                    intro r16 hq
                                    replace T := T r16 hq
                                    refine ⟨F, ?_⟩
                                    refine callX_sy (T _ (Hp.nil _)) (fun _ _ ⟨_, p, _⟩ => p.fr) (allc (fun h => by cases h) (allc (fun h => by cases h) alln)) ?_
                                    rintro v12 hv28 ⟨r17, PP, rfl, T⟩
                                    have F : Fr _ _ hv28 := F.trans PP.fr.nil
                                    have fshv28 := F.size
                                    have Y : Sy _ _ hv28 [_, _, _, _, _, _, _, _] := Y.gr PP.fr
                                    clear PP
                                    refine ⟨r17, rfl, ?_⟩
                                    refine ⟨F, ?_⟩
                                    refine callX_sy (T _ (Hp.nil _)) (fun _ _ ⟨_, p, _⟩ => p.fr) (allc (fun h => by cases h) (allc (fun h => by cases h) alln)) ?_
                                    rintro v13 hv29 ⟨r18, PP, rfl, T⟩
                                    have F : Fr _ _ hv29 := F.trans PP.fr.nil
                                    have fshv29 := F.size
                                    have Y : Sy _ _ hv29 [_, _, _, _, _, _, _, _] := Y.gr PP.fr
                                    clear PP
                                    refine ⟨r18, rfl, ?_⟩
                                    refine ⟨F, ?_⟩
                                    obtain ⟨q_19, q_20, T⟩ := T
                                    obtain ⟨b_10, hb_9, ho_8, s_5, hx_9⟩ := Y0.atS 1 rfl q_19 q_20
                                    refine ⟨b_10, 0, hb_9, q_19, q_20, ?_⟩
                                    refine ⟨(Y.neJ 1 0 rfl rfl rfl ho_8), (Y.neJ 1 6 rfl rfl rfl ho_8), Y.cellEx 1 rfl hb_9 (t := 0) (by omega) (by decide), Y.freeS 1 rfl hb_9 _, Y.cellEx 1 rfl hb_9 (t := 1) (by omega) (by decide), Y.freeS 1 rfl hb_9 _, ?_⟩
                                    intro hv32
                                    have Y : Sy _ _ hv32 [_, _, _, _, _, _, _, _] := Y.st2 1 rfl hb_9 (r17, r18) (by omega) rfl (fun y => ⟨(r17, y.2), rfl⟩) rfl
                                    clear_value hv32
                                    exact ⟨_, rfl, Y.pick [1, 2, 3, 4, 5, 6, 7] rfl, T⟩
                            subst hB_5
                            replace T := T0
                            clear T0 T1
                            have Y0 := Y
                            have F : Fr [] hv8 hv8 := Fr.refl _ _
                            obtain ⟨q_21, q_22, T⟩ := T
                            obtain ⟨b_11, hb_10, ho_9, r_7, hx_10, r_8, hr_4⟩ := Y0.atR 6 rfl q_21 q_22
                            refine ⟨b_11, 0, hb_10, q_21, q_22, ?_⟩
                            replace T := T r_7 hx_10
                            refine ⟨_, _, _, Y0.cellR 6 rfl hb_10 hr_4 hx_10, ?_⟩
                            obtain ⟨q_23, q_24, T⟩ := T
                            obtain ⟨b_12, hb_11, ho_10, x_3, hx_11⟩ := Y0.atRow 6 rfl hr_4 hx_10 q_23 q_24
                            refine ⟨b_12, 0, hb_11, q_23, q_24, ?_⟩
                            replace T := T x_3 hx_11
                            refine ⟨_, Y0.cellRow 6 rfl hr_4 hx_10 hb_11 (t := 0) hx_11 rfl, ?_⟩
                            refine ⟨?_, ?_⟩
                            · refine callX_sy (T _ _ _ _ (Y.pick [2] rfl).hp) (fun _ _ ⟨_, p, _⟩ => p.fr) (allc (fun h => by cases h) alln) ?_
                              rintro v4 hv9 ⟨r2, PP, rfl, T⟩
                              have F : Fr _ _ hv9 := F.trans PP.fr.nil
                              have fshv9 := F.size
                              have Y : Sy _ _ hv9 [_, _, _, _, _, _, _] := Y.gr PP.fr
                              clear PP
                              refine ⟨r2, rfl, ?_⟩
                              refine ⟨F, ?_⟩
                              obtain ⟨q_25, q_26, T⟩ := T
                              obtain ⟨b_13, hb_12, ho_11, now_4, hx_12⟩ := Y0.atS 1 rfl q_25 q_26
                              refine ⟨b_13, 0, hb_12, q_25, q_26, ?_⟩
                              replace T := T now_4 hx_12
                              refine ⟨_, Y0.cellS 1 rfl hb_12 (t := 0) hx_12 rfl, ?_⟩
                              refine ⟨_, Y0.cellS 1 rfl hb_12 (t := 1) hx_12 rfl, ?_⟩
                              intro hv10
                              have Y : Sy _ _ hv10 [_, _, _, _, _, _, _, _] := Y.junk _
                              have F : Fr _ _ hv10 := F.pushr _
                              have fshv10 := F.size
                              clear_value hv10
                              refine ⟨F, ?_⟩
                              exact hK2 _ _ _ _ ⟨Y.pick [7, 0, 1, 2, 3, 4, 5, 6] rfl, T⟩
                            · intro hv11
                              have Y : Sy _ _ hv11 [_, _, _, _, _, _, _, _] := Y.junk _
                              have F : Fr _ _ hv11 := F.pushr _
                              have fshv11 := F.size
                              clear_value hv11
                              refine ⟨F, ?_⟩
                              refine callX_sy (T _ _ _ _ (Y.pick [2] rfl).hp) (fun _ _ ⟨_, p, _⟩ => p.fr) (allc (fun h => by cases h) (allc (fun h => by cases h) alln)) ?_
                              rintro v5 hv12 ⟨r3, PP, rfl, T⟩
                              have F : Fr _ _ hv12 := F.trans PP.fr.nil
                              have fshv12 := F.size
                              have Y : Sy _ _ hv12 [_, _, _, _, _, _, _, _] := Y.gr PP.fr
                              clear PP
                              refine ⟨r3, rfl, ?_⟩
                              refine ⟨F, ?_⟩
                              obtain ⟨q_27, q_28, T⟩ := T
                              obtain ⟨b_14, hb_13, ho_12, now_5, hx_13⟩ := Y0.atS 1 rfl q_27 q_28
                              refine ⟨b_14, 0, hb_13, q_27, q_28, ?_⟩
                              replace T := T now_5 hx_13
                              refine ⟨_, Y0.cellS 1 rfl hb_13 (t := 0) hx_13 rfl, ?_⟩
                              refine ⟨_, Y0.cellS 1 rfl hb_13 (t := 1) hx_13 rfl, ?_⟩
                              exact hK2 _ _ _ _ ⟨Y.pick [7, 0, 1, 2, 3, 4, 5, 6] rfl, T⟩
                      · subst hB_4 hF_2
                        clear T0 Y
                        rintro hv33 ⟨s_2, e, Y, T⟩
                        cases e
                        replace T := T1 s_2 T
                        have Y : Sy _ _ _ [_, _, _, _, _, _, _] := Y
                        exact loopBack hm_2 ⟨_, _, rfl, Y.pick [0, 1, 2, 3, 4, 5, 6] rfl, T.1, rfl⟩ T.2
                    · exact loopBack hm ⟨_, _, _, _, _, rfl, Y.pick [0, 2, 3, 4, 5, 6] rfl, T.1, rfl⟩ T.2
                · exact ⟨_, _, _, _, _, Y.pick [0] rfl, rfl, T⟩

/-- tracery/traceryref28.snap -/
def S145 (x : Nat) (scale : Nat) (h : Heap) (R : Value → Heap → Prop) : Prop :=
  ∀ r, FRes .f64 x scale ((FloatKind.f64).format.mul x scale) r → callE Try.prog 204 #[.float .f64 r] fun v =>
  ∃ r2 : Nat, v = .float .f64 r2 ∧
  cnd ((FloatKind.f64).format.order r2 r2 != some .eq)
    (R (.tuple #[.int .i64 0, .int .i64 17]) h)
    (cnd ((FloatKind.f64).format.order r2 13920626448202203136 == some .lt)
      (R (.tuple #[.int .i64 0, .int .i64 2]) h)
      (cnd ((FloatKind.f64).format.order r2 4697254411347427328 == some .gt)
        (R (.tuple #[.int .i64 0, .int .i64 2]) h)
        (∀ r3, F2I .f64 r2 .i64 r3 → R (.tuple #[.int .i64 r3, .int .i64 0]) h)))

theorem calls145 {h : Heap} {R : Value → Heap → Prop} (x : Nat) (scale : Nat) (H : S145 x scale h R) : CallsH Try.prog 145 #[.float .f64 x, .float .f64 scale] h R := by
  have e : S145 x scale h R = FX (envX [] 22) { loops := [], joins := [], blocks := [], draws := [] } Try.f145 (Try.f145.body.getD .skip) [.float .f64 x, .float .f64 scale] h R := by kernel_rfl
  exact calls_of_FX (envX_ok _ _) Try.func145 (by kernel_rfl) (by kernel_rfl) (by kernel_rfl) (e ▸ H)

/-- tracery/traceryref28.snap -/
def Ok145 (x : Nat) (scale : Nat) (R : Int → Int → Prop) : Prop :=
  ∀ (h : Heap), Hp h [] → CallsH Try.prog 145 #[.float .f64 x, .float .f64 scale] h fun v h' => ∃ (raV : Int) (rbV : Int), Sy h [] h' [] ∧ v = .tuple #[.int .i64 raV, .int .i64 rbV] ∧ R raV rbV
theorem Ok145.mono {x scale} {R R' : Int → Int → Prop} (H : Ok145 x scale R) (kz : ∀ raV rbV, R raV rbV → R' raV rbV) : Ok145 x scale R' :=
  fun h  hp => (H h  hp).mono fun _ _ ⟨raV, rbV, P, e, q⟩ => ⟨raV, rbV, P, e, kz _ _ q⟩

def T145 (x : Nat) (scale : Nat) (R : Int → Int → Prop) : Prop :=
  ∀ r : Nat, FRes .f64 x scale ((FloatKind.f64).format.mul x scale) r → callE Try.prog 204 #[.float .f64 r] fun v =>
  ∃ r2 : Nat, v = .float .f64 r2 ∧
  cnd ((FloatKind.f64).format.order r2 r2 != some .eq)
    (R 0 17)
    (cnd ((FloatKind.f64).format.order r2 13920626448202203136 == some .lt)
      (R 0 2)
      (cnd ((FloatKind.f64).format.order r2 4697254411347427328 == some .gt)
        (R 0 2)
        (∀ r3 : Int, F2I .f64 r2 .i64 r3 → R r3 0)))

theorem ok145 {x scale} {R : Int → Int → Prop} (T : T145 x scale R) : Ok145 x scale R := by
  intro h  H
  have Y : Sy h [] h _ := Sy.startM H rfl
  apply calls145
  unfold S145
  unfold T145 at T
  intro r hq
  replace T := T r hq
  obtain ⟨Rx, hx, T⟩ := T
  refine ⟨Rx, hx, fun v hv => ?_⟩
  obtain ⟨r2, rfl, T⟩ := T v hv
  refine ⟨r2, rfl, ?_⟩
  refine cnd_imp T (fun T => ?_) (fun T => ?_)
  · exact ⟨_, _, Y.pick [] rfl, rfl, T⟩
  · refine cnd_imp T (fun T => ?_) (fun T => ?_)
    · exact ⟨_, _, Y.pick [] rfl, rfl, T⟩
    · refine cnd_imp T (fun T => ?_) (fun T => ?_)
      · exact ⟨_, _, Y.pick [] rfl, rfl, T⟩
      · intro r3 hq
        replace T := T r3 hq
        exact ⟨_, _, Y.pick [] rfl, rfl, T⟩

/-- tracery/traceryref28.Snap -/
def S49 (atA : Option Addr) (atL atC : Nat) (scale : Nat) (h : Heap) (R : Value → Heap → Prop) : Prop :=
  cnd (decide (((atL : Nat) : Int) > (1024 : Int)))
    (R (.tuple #[.slice none 0 0, .int .i64 1]) h)
    (∃ (Iv : List Value → Heap → Prop) (m : List Value → Heap → Nat), Iv [.slice none 0 0, .int .i64 0] h ∧ -- loop 0: ['l', 'i']
    ∀ (lA : Option Addr) (lL lC : Nat), ∀ i : Int, ∀ hv, Iv [.slice lA lL lC, .int .i64 i] hv →
    cnd (decide (i < ((atL : Nat) : Int)))
      (∃ b o, atA = some ⟨b, o, none⟩ ∧ 0 ≤ i ∧ i < (atL : Nat) ∧ ∃ x : Nat, hcell hv b (o + (Int.toNat i) * 2) = some (.float .f64 x) ∧ callX Try.prog 145 #[.float .f64 x, .float .f64 scale] hv [] fun v hv2 =>
      ∃ ra : Int, ∃ rb : Int, v = .tuple #[.int .i64 ra, .int .i64 rb] ∧
      cnd (rb != (0 : Int))
        (R (.tuple #[.slice none 0 0, .int .i64 rb]) hv2)
        (∃ b2 o2, atA = some ⟨b2, o2, none⟩ ∧ 0 ≤ i ∧ i < (atL : Nat) ∧ ∃ x2 : Nat, hcell hv2 b2 ((o2 + (Int.toNat i) * 2) + 1) = some (.float .f64 x2) ∧ callX Try.prog 145 #[.float .f64 x2, .float .f64 scale] hv2 [] fun v2 hv3 =>
        ∃ ra2 : Int, ∃ rb2 : Int, v2 = .tuple #[.int .i64 ra2, .int .i64 rb2] ∧
        cnd (rb2 != (0 : Int))
          (R (.tuple #[.slice none 0 0, .int .i64 rb2]) hv3)
          (let hv4 : Heap := hv3.push (.cells #[.int .i64 ra, .int .i64 ra2] 65)
          ∃ old, Own hv4 65 2 lA lL lC old ∧ (∀ b ∈ ([hv3.size] : List Nat), b ∉ blkOf lA) ∧ (lL + 1) * 16 ≤ 140737488355328 ∧ (lL + 1) ≤ maxLen ∧
          ∀ sA sC hv5, Own hv5 65 2 sA (lL + 1) sC (old ++ [.int .i64 ra, .int .i64 ra2]) → Fr (blkOf lA) hv4 hv5 → ((sA = lA ∧ sC = lC) ∨ ∃ g, sA = some ⟨g, 0, none⟩ ∧ hv4.size ≤ g) →
          Iv [.slice sA (lL + 1) sC, .int .i64 (IntKind.i64.wrap (i + (1 : Int)))] hv5 ∧ m [.slice sA (lL + 1) sC, .int .i64 (IntKind.i64.wrap (i + (1 : Int)))] hv5 < m [.slice lA lL lC, .int .i64 i] hv)))
      (R (.tuple #[.slice lA lL lC, .int .i64 0]) hv))

theorem calls49 {h : Heap} {R : Value → Heap → Prop} (atA : Option Addr) (atL atC : Nat) (scale : Nat) (H : S49 atA atL atC scale h R) : CallsH Try.prog 49 #[.slice atA atL atC, .float .f64 scale] h R := by
  have e : S49 atA atL atC scale h R = FX (envX [50] 53) { loops := [(0, ⟨[0, 1], [6, 7], [], []⟩)], joins := [], blocks := [], draws := [] } Try.f49 (Try.f49.body.getD .skip) [.slice atA atL atC, .float .f64 scale] h R := by kernel_rfl
  exact calls_of_FX (envX_ok _ _) Try.func49 (by kernel_rfl) (by kernel_rfl) (by kernel_rfl) (e ▸ H)

/-- tracery/traceryref28.Snap -/
def Ok49 (atV : List (Nat × Nat)) (scale : Nat) (R : List (Int × Int) → Int → Prop) : Prop :=
  ∀ (h : Heap) (atA : Option Addr) (atL atC : Nat), Hp h [Ck.vw eFF atA atL atC atV] → CallsH Try.prog 49 #[.slice atA atL atC, .float .f64 scale] h fun v h' => ∃ (raVA : Option Addr) (raVL raVC : Nat) (raV : List (Int × Int)) (rbV : Int), Sy h [] h' [Ck.sl eP 65 raVA raVL raVC raV] ∧ v = .tuple #[.slice raVA raVL raVC, .int .i64 rbV] ∧ R raV rbV
theorem Ok49.mono {atV scale} {R R' : List (Int × Int) → Int → Prop} (H : Ok49 atV scale R) (kz : ∀ raV rbV, R raV rbV → R' raV rbV) : Ok49 atV scale R' :=
  fun h atA atL atC hp => (H h atA atL atC hp).mono fun _ _ ⟨raVA, raVL, raVC, raV, rbV, P, e, q⟩ => ⟨raVA, raVL, raVC, raV, rbV, P, e, kz _ _ q⟩

def T49 (atV : List (Nat × Nat)) (scale : Nat) (R : List (Int × Int) → Int → Prop) : Prop :=
  cnd (decide (((atV.length : Nat) : Int) > (1024 : Int)))
    (R ([] : List (Int × Int)) 1)
    (∃ (Iv : List (Int × Int) → Int → Prop) (m : List (Int × Int) → Int → Nat), Iv ([] : List (Int × Int)) 0 ∧
    ∀ l : List (Int × Int), ∀ i : Int, Iv l i →
    cnd (decide (i < ((atV.length : Nat) : Int)))
      (0 ≤ i ∧ i < ((atV.length : Nat) : Int) ∧ ∀ atv : (Nat × Nat), atV[(Int.toNat i)]? = some atv → Ok145 atv.1 scale (fun ra rb =>
      cnd (rb != (0 : Int))
        (R ([] : List (Int × Int)) rb)
        (Ok145 atv.2 scale (fun ra2 rb2 =>
        cnd (rb2 != (0 : Int))
          (R ([] : List (Int × Int)) rb2)
          ((l.length + 1) < 1000000000000 ∧ Iv (l ++ [(ra, ra2)]) (IntKind.i64.wrap (i + (1 : Int))) ∧ m (l ++ [(ra, ra2)]) (IntKind.i64.wrap (i + (1 : Int))) < m l i)))))
      (R l 0))

theorem ok49 {atV scale} {R : List (Int × Int) → Int → Prop} (T : T49 atV scale R) : Ok49 atV scale R := by
  intro h atA atL atC H
  have Y : Sy h [] h _ := Sy.startM H rfl
  obtain rfl := Y.lenV 0 rfl
  apply calls49
  unfold S49
  unfold T49 at T
  refine cnd_imp T (fun T => ?_) (fun T => ?_)
  · have Y : Sy _ _ _ [_, _] := Y.nilS eP 65
    exact ⟨_, _, _, _, _, Y.pick [1] rfl, rfl, T⟩
  · have Y : Sy _ _ _ [_, _] := Y.nilS eP 65
    obtain ⟨Iv, m, T0, T1⟩ := T
    obtain ⟨B, hB, YB⟩ := Y.cut [1] [0] rfl
    obtain ⟨JJ, hJJ⟩ : ∃ JJ : Nat → List Value → Heap → Prop, JJ = (fun k lz h' => ∃ (lA : Option Addr) (lL lC : Nat) (l : List (Int × Int)) (i : Int), lz = [.slice lA lL lC, .int .i64 i] ∧ Sy h [] h' ([Ck.sl eP 65 lA lL lC l] ++ B) ∧ Iv l i ∧ m l i = k) := ⟨_, rfl⟩
    refine ⟨fun lz h' => ∃ k, JJ k lz h', Lm JJ, ?_, ?_⟩
    · subst hJJ hB
      exact ⟨_, _, _, _, _, _, rfl, YB, T0, rfl⟩
    · clear YB T0 Y
      intro lA lL lC i hv hI
      obtain ⟨k, hI, hm⟩ := loopIn hI
      subst hJJ hB
      obtain ⟨lA, lL, lC, l, i, e, Y, T, rfl⟩ := hI
      cases e
      obtain rfl := Y.lenS 0 rfl
      replace T := T1 l i T
      have Y : Sy _ _ _ [_, _] := Y
      refine cnd_imp T (fun T => ?_) (fun T => ?_)
      · obtain ⟨q, q_2, T⟩ := T
        obtain ⟨b_2, o_2, hb, hr, atv, hx⟩ := Y.atV 1 rfl q q_2
        refine ⟨b_2, o_2, hb, q, q_2, ?_⟩
        replace T := T atv hx
        refine ⟨_, Y.cellV 1 rfl hb (t := 0) hx rfl, ?_⟩
        refine callX_sy (T _ (Hp.nil _)) (fun _ _ ⟨_, _, p, _⟩ => p.fr) alln ?_
        rintro v hv2 ⟨ra, rb, PP, rfl, T⟩
        have Y : Sy _ _ hv2 [_, _] := Y.gr PP.fr
        clear PP
        refine ⟨ra, rb, rfl, ?_⟩
        refine cnd_imp T (fun T => ?_) (fun T => ?_)
        · have Y : Sy _ _ _ [_, _, _] := Y.nilS eP 65
          exact ⟨_, _, _, _, _, Y.pick [2] rfl, rfl, T⟩
        · refine ⟨b_2, o_2, hb, q, q_2, ?_⟩
          refine ⟨_, Y.cellV 1 rfl hb (t := 1) hx rfl, ?_⟩
          refine callX_sy (T _ (Hp.nil _)) (fun _ _ ⟨_, _, p, _⟩ => p.fr) alln ?_
          rintro v2 hv3 ⟨ra2, rb2, PP, rfl, T⟩
          have Y : Sy _ _ hv3 [_, _] := Y.gr PP.fr
          clear PP
          refine ⟨ra2, rb2, rfl, ?_⟩
          refine cnd_imp T (fun T => ?_) (fun T => ?_)
          · have Y : Sy _ _ _ [_, _, _] := Y.nilS eP 65
            exact ⟨_, _, _, _, _, Y.pick [2] rfl, rfl, T⟩
          · intro hv4
            have Y : Sy _ _ hv4 [_, _, _] := Y.junk _
            clear_value hv4
            obtain ⟨q_3, T⟩ := T
            refine ⟨_, Y.ownS 0 rfl, (allc (Y.nJ 0 2 rfl rfl rfl) alln), by omega, by simp [maxLen]; omega, ?_⟩
            intro sA sC hv5 ow fA gA
            have Y : Sy _ _ hv5 [_, _, _] := Y.appS 0 rfl ([(ra, ra2)] : List (Int × Int)) ow fA gA rfl rfl
            exact loopBack hm ⟨_, _, _, _, _, rfl, Y.pick [0, 1] rfl, T.1, rfl⟩ T.2
      · exact ⟨_, _, _, _, _, Y.pick [0] rfl, rfl, T⟩

/-- tracery/traceryref1.Bits -/
def S53 (a : Nat) (b : Nat) (h : Heap) (R : Value → Heap → Prop) : Prop :=
  callE Try.prog 149 #[.float .f64 a] fun v =>
  ∃ r : Int, v = .int .u64 r ∧
  callE Try.prog 149 #[.float .f64 b] fun v2 =>
  ∃ r2 : Int, v2 = .int .u64 r2 ∧
  R (.bool (r == r2)) h

theorem calls53 {h : Heap} {R : Value → Heap → Prop} (a : Nat) (b : Nat) (H : S53 a b h R) : CallsH Try.prog 53 #[.float .f64 a, .float .f64 b] h R := by
  have e : S53 a b h R = FX (envX [] 10) { loops := [], joins := [], blocks := [], draws := [] } Try.f53 (Try.f53.body.getD .skip) [.float .f64 a, .float .f64 b] h R := by kernel_rfl
  exact calls_of_FX (envX_ok _ _) Try.func53 (by kernel_rfl) (by kernel_rfl) (by kernel_rfl) (e ▸ H)

/-- tracery/traceryref1.Bits -/
def Ok53 (a : Nat) (b : Nat) (R : Bool → Prop) : Prop :=
  ∀ (h : Heap), Hp h [] → CallsH Try.prog 53 #[.float .f64 a, .float .f64 b] h fun v h' => ∃ (rV : Bool), Sy h [] h' [] ∧ v = .bool rV ∧ R rV
theorem Ok53.mono {a b} {R R' : Bool → Prop} (H : Ok53 a b R) (kz : ∀ rV, R rV → R' rV) : Ok53 a b R' :=
  fun h  hp => (H h  hp).mono fun _ _ ⟨rV, P, e, q⟩ => ⟨rV, P, e, kz _ q⟩

def T53 (a : Nat) (b : Nat) (R : Bool → Prop) : Prop :=
  callE Try.prog 149 #[.float .f64 a] fun v =>
  ∃ r : Int, v = .int .u64 r ∧
  callE Try.prog 149 #[.float .f64 b] fun v2 =>
  ∃ r2 : Int, v2 = .int .u64 r2 ∧
  R (r == r2)

theorem ok53 {a b} {R : Bool → Prop} (T : T53 a b R) : Ok53 a b R := by
  intro h  H
  have Y : Sy h [] h _ := Sy.startM H rfl
  apply calls53
  unfold S53
  unfold T53 at T
  obtain ⟨Rx_2, hx_2, T⟩ := T
  refine ⟨Rx_2, hx_2, fun v hv => ?_⟩
  obtain ⟨r, rfl, T⟩ := T v hv
  refine ⟨r, rfl, ?_⟩
  obtain ⟨Rx, hx, T⟩ := T
  refine ⟨Rx, hx, fun v2 hv => ?_⟩
  obtain ⟨r2, rfl, T⟩ := T v2 hv
  refine ⟨r2, rfl, ?_⟩
  exact ⟨_, Y.pick [] rfl, rfl, T⟩

/-- tracery/traceryref28.Eq -/
def S50 (aA : Option Addr) (aL aC : Nat) (bA : Option Addr) (bL bC : Nat) (h : Heap) (R : Value → Heap → Prop) : Prop :=
  cnd (((aL : Nat) : Int) != ((bL : Nat) : Int))
    (R (.bool false) h)
    (∃ (Iv : List Value → Heap → Prop) (m : List Value → Heap → Nat), Iv [.int .i64 0] h ∧ -- loop 0: ['i']
    ∀ i : Int, ∀ hv, Iv [.int .i64 i] hv →
    cnd (decide (i < ((aL : Nat) : Int)))
      (∃ b o, aA = some ⟨b, o, none⟩ ∧ 0 ≤ i ∧ i < (aL : Nat) ∧ ∃ x : Nat, hcell hv b (o + (Int.toNat i) * 2) = some (.float .f64 x) ∧ ∃ b2 o2, bA = some ⟨b2, o2, none⟩ ∧ 0 ≤ i ∧ i < (bL : Nat) ∧ ∃ x2 : Nat, hcell hv b2 (o2 + (Int.toNat i) * 2) = some (.float .f64 x2) ∧ callX Try.prog 53 #[.float .f64 x, .float .f64 x2] hv [] fun v hv2 =>
      ∃ r : Bool, v = .bool r ∧
      Fr [] hv hv2 ∧
      cnd (!r)
        (Fr [] hv hv2 ∧
        R (.bool false) hv2)
        (∃ b3 o3, aA = some ⟨b3, o3, none⟩ ∧ 0 ≤ i ∧ i < (aL : Nat) ∧ ∃ x3 : Nat, hcell hv b3 ((o3 + (Int.toNat i) * 2) + 1) = some (.float .f64 x3) ∧ ∃ b4 o4, bA = some ⟨b4, o4, none⟩ ∧ 0 ≤ i ∧ i < (bL : Nat) ∧ ∃ x4 : Nat, hcell hv b4 ((o4 + (Int.toNat i) * 2) + 1) = some (.float .f64 x4) ∧ callX Try.prog 53 #[.float .f64 x3, .float .f64 x4] hv2 [] fun v2 hv3 =>
        ∃ r2 : Bool, v2 = .bool r2 ∧
        Fr [] hv hv3 ∧
        cnd (!r2)
          (R (.bool false) hv3)
          (Iv [.int .i64 (IntKind.i64.wrap (i + (1 : Int)))] hv3 ∧ m [.int .i64 (IntKind.i64.wrap (i + (1 : Int)))] hv3 < m [.int .i64 i] hv)))
      (R (.bool true) hv))

theorem calls50 {h : Heap} {R : Value → Heap → Prop} (aA : Option Addr) (aL aC : Nat) (bA : Option Addr) (bL bC : Nat) (H : S50 aA aL aC bA bL bC h R) : CallsH Try.prog 50 #[.slice aA aL aC, .slice bA bL bC] h R := by
  have e : S50 aA aL aC bA bL bC h R = FX (envX [] 43) { loops := [(0, ⟨[0, 1], [5], [], []⟩)], joins := [], blocks := [], draws := [(6, ⟨26, false⟩)] } Try.f50 (Try.f50.body.getD .skip) [.slice aA aL aC, .slice bA bL bC] h R := by kernel_rfl
  exact calls_of_FX (envX_ok _ _) Try.func50 (by kernel_rfl) (by kernel_rfl) (by kernel_rfl) (e ▸ H)

/-- tracery/traceryref28.Eq -/
def Ok50 (aV : List (Nat × Nat)) (bV : List (Nat × Nat)) (R : Bool → Prop) : Prop :=
  ∀ (h : Heap) (aA : Option Addr) (aL aC : Nat) (bA : Option Addr) (bL bC : Nat), Hp h [Ck.vw eFF aA aL aC aV, Ck.vw eFF bA bL bC bV] → CallsH Try.prog 50 #[.slice aA aL aC, .slice bA bL bC] h fun v h' => ∃ (rV : Bool), Sy h [] h' [] ∧ v = .bool rV ∧ R rV
theorem Ok50.mono {aV bV} {R R' : Bool → Prop} (H : Ok50 aV bV R) (kz : ∀ rV, R rV → R' rV) : Ok50 aV bV R' :=
  fun h aA aL aC bA bL bC hp => (H h aA aL aC bA bL bC hp).mono fun _ _ ⟨rV, P, e, q⟩ => ⟨rV, P, e, kz _ q⟩

def T50 (aV : List (Nat × Nat)) (bV : List (Nat × Nat)) (R : Bool → Prop) : Prop :=
  cnd (((aV.length : Nat) : Int) != ((bV.length : Nat) : Int))
    (R false)
    (∃ (Iv : Int → Prop) (m : Int → Nat), Iv 0 ∧
    ∀ i : Int, Iv i →
    cnd (decide (i < ((aV.length : Nat) : Int)))
      (0 ≤ i ∧ i < ((aV.length : Nat) : Int) ∧ ∀ a : (Nat × Nat), aV[(Int.toNat i)]? = some a → 0 ≤ i ∧ i < ((bV.length : Nat) : Int) ∧ ∀ b_4 : (Nat × Nat), bV[(Int.toNat i)]? = some b_4 → Ok53 a.1 b_4.1 (fun r =>
      cnd (!r)
        (R false)
        (Ok53 a.2 b_4.2 (fun r2 =>
        cnd (!r2)
          (R false)
          (Iv (IntKind.i64.wrap (i + (1 : Int))) ∧ m (IntKind.i64.wrap (i + (1 : Int))) < m i)))))
      (R true))

theorem ok50 {aV bV} {R : Bool → Prop} (T : T50 aV bV R) : Ok50 aV bV R := by
  intro h aA aL aC bA bL bC H
  have Y : Sy h [] h _ := Sy.startM H rfl
  obtain rfl := Y.lenV 0 rfl
  obtain rfl := Y.lenV 1 rfl
  apply calls50
  unfold S50
  unfold T50 at T
  refine cnd_imp T (fun T => ?_) (fun T => ?_)
  · exact ⟨_, Y.pick [] rfl, rfl, T⟩
  · obtain ⟨Iv, m, T0, T1⟩ := T
    obtain ⟨B, hB, YB⟩ := Y.cut [] [0, 1] rfl
    obtain ⟨JJ, hJJ⟩ : ∃ JJ : Nat → List Value → Heap → Prop, JJ = (fun k lz h' => ∃ (i : Int), lz = [.int .i64 i] ∧ Sy h [] h' ([] ++ B) ∧ Iv i ∧ m i = k) := ⟨_, rfl⟩
    refine ⟨fun lz h' => ∃ k, JJ k lz h', Lm JJ, ?_, ?_⟩
    · subst hJJ hB
      exact ⟨_, _, rfl, YB, T0, rfl⟩
    · clear YB T0 Y
      intro i hv hI
      obtain ⟨k, hI, hm⟩ := loopIn hI
      subst hJJ hB
      obtain ⟨i, e, Y, T, rfl⟩ := hI
      cases e
      replace T := T1 i T
      have Y : Sy _ _ _ [_, _] := Y
      refine cnd_imp T (fun T => ?_) (fun T => ?_)
      · have Y0 := Y
        have F : Fr [] hv hv := Fr.refl _ _
        obtain ⟨q, q_2, T⟩ := T
        obtain ⟨b_2, o_2, hb, hr, a, hx⟩ := Y0.atV 0 rfl q q_2
        refine ⟨b_2, o_2, hb, q, q_2, ?_⟩
        replace T := T a hx
        refine ⟨_, Y0.cellV 0 rfl hb (t := 0) hx rfl, ?_⟩
        obtain ⟨q_3, q_4, T⟩ := T
        obtain ⟨b_3, o_3, hb_2, hr_2, b_4, hx_2⟩ := Y0.atV 1 rfl q_3 q_4
        refine ⟨b_3, o_3, hb_2, q_3, q_4, ?_⟩
        replace T := T b_4 hx_2
        refine ⟨_, Y0.cellV 1 rfl hb_2 (t := 0) hx_2 rfl, ?_⟩
        refine callX_sy (T _ (Hp.nil _)) (fun _ _ ⟨_, p, _⟩ => p.fr) alln ?_
        rintro v hv2 ⟨r, PP, rfl, T⟩
        have F : Fr _ _ hv2 := F.trans PP.fr.nil
        have fshv2 := F.size
        have Y : Sy _ _ hv2 [_, _] := Y.gr PP.fr
        clear PP
        refine ⟨r, rfl, ?_⟩
        refine ⟨F, ?_⟩
        refine cnd_imp T (fun T => ?_) (fun T => ?_)
        · refine ⟨F, ?_⟩
          exact ⟨_, Y.pick [] rfl, rfl, T⟩
        · refine ⟨b_2, o_2, hb, q, q_2, ?_⟩
          refine ⟨_, Y0.cellV 0 rfl hb (t := 1) hx rfl, ?_⟩
          refine ⟨b_3, o_3, hb_2, q_3, q_4, ?_⟩
          refine ⟨_, Y0.cellV 1 rfl hb_2 (t := 1) hx_2 rfl, ?_⟩
          refine callX_sy (T _ (Hp.nil _)) (fun _ _ ⟨_, p, _⟩ => p.fr) alln ?_
          rintro v2 hv3 ⟨r2, PP, rfl, T⟩
          have F : Fr _ _ hv3 := F.trans PP.fr.nil
          have fshv3 := F.size
          have Y : Sy _ _ hv3 [_, _] := Y.gr PP.fr
          clear PP
          refine ⟨r2, rfl, ?_⟩
          refine ⟨F, ?_⟩
          refine cnd_imp T (fun T => ?_) (fun T => ?_)
          · exact ⟨_, Y.pick [] rfl, rfl, T⟩
          · exact loopBack hm ⟨_, rfl, Y.pick [0, 1] rfl, T.1, rfl⟩ T.2
      · exact ⟨_, Y.pick [] rfl, rfl, T⟩

/-- tracery/traceryref1.Less -/
def S148 (a : Nat) (b : Nat) (h : Heap) (R : Value → Heap → Prop) : Prop :=
  cnd ((FloatKind.f64).format.order a a != some .eq)
    (R (.bool false) h)
    (cnd ((FloatKind.f64).format.order b b != some .eq)
      (R (.bool true) h)
      (R (.bool ((FloatKind.f64).format.order a b == some .lt)) h))

theorem calls148 {h : Heap} {R : Value → Heap → Prop} (a : Nat) (b : Nat) (H : S148 a b h R) : CallsH Try.prog 148 #[.float .f64 a, .float .f64 b] h R := by
  have e : S148 a b h R = FX (envX [] 16) { loops := [], joins := [], blocks := [], draws := [] } Try.f148 (Try.f148.body.getD .skip) [.float .f64 a, .float .f64 b] h R := by kernel_rfl
  exact calls_of_FX (envX_ok _ _) Try.func148 (by kernel_rfl) (by kernel_rfl) (by kernel_rfl) (e ▸ H)

/-- tracery/traceryref1.Less -/
def Ok148 (a : Nat) (b : Nat) (R : Bool → Prop) : Prop :=
  ∀ (h : Heap), Hp h [] → CallsH Try.prog 148 #[.float .f64 a, .float .f64 b] h fun v h' => ∃ (rV : Bool), Sy h [] h' [] ∧ v = .bool rV ∧ R rV
theorem Ok148.mono {a b} {R R' : Bool → Prop} (H : Ok148 a b R) (kz : ∀ rV, R rV → R' rV) : Ok148 a b R' :=
  fun h  hp => (H h  hp).mono fun _ _ ⟨rV, P, e, q⟩ => ⟨rV, P, e, kz _ q⟩

def T148 (a : Nat) (b : Nat) (R : Bool → Prop) : Prop :=
  cnd ((FloatKind.f64).format.order a a != some .eq)
    (R false)
    (cnd ((FloatKind.f64).format.order b b != some .eq)
      (R true)
      (R ((FloatKind.f64).format.order a b == some .lt)))

theorem ok148 {a b} {R : Bool → Prop} (T : T148 a b R) : Ok148 a b R := by
  intro h  H
  have Y : Sy h [] h _ := Sy.startM H rfl
  apply calls148
  unfold S148
  unfold T148 at T
  refine cnd_imp T (fun T => ?_) (fun T => ?_)
  · exact ⟨_, Y.pick [] rfl, rfl, T⟩
  · refine cnd_imp T (fun T => ?_) (fun T => ?_)
    · exact ⟨_, Y.pick [] rfl, rfl, T⟩
    · exact ⟨_, Y.pick [] rfl, rfl, T⟩

/-- tracery/traceryref28.Moved -/
def S52 (aA : Option Addr) (aL aC : Nat) (bA : Option Addr) (bL bC : Nat) (h : Heap) (R : Value → Heap → Prop) : Prop :=
  cnd (((aL : Nat) : Int) != ((bL : Nat) : Int))
    (R (.tuple #[.float .f64 0, .int .i64 1]) h)
    (∃ (Iv : List Value → Heap → Prop) (m : List Value → Heap → Nat), Iv [.float .f64 0, .int .i64 0] h ∧ -- loop 0: ['best', 'i']
    ∀ best : Nat, ∀ i : Int, ∀ hv, Iv [.float .f64 best, .int .i64 i] hv →
    cnd (decide (i < ((aL : Nat) : Int)))
      (∃ b o, aA = some ⟨b, o, none⟩ ∧ 0 ≤ i ∧ i < (aL : Nat) ∧ ∃ x : Nat, hcell hv b (o + (Int.toNat i) * 2) = some (.float .f64 x) ∧ ∃ b2 o2, bA = some ⟨b2, o2, none⟩ ∧ 0 ≤ i ∧ i < (bL : Nat) ∧ ∃ x2 : Nat, hcell hv b2 (o2 + (Int.toNat i) * 2) = some (.float .f64 x2) ∧ ∀ r, FRes .f64 x x2 ((FloatKind.f64).format.sub x x2) r → Fr [] hv hv ∧
      callX Try.prog 56 #[.float .f64 r] hv [] fun v hv2 =>
      ∃ r2 : Nat, v = .float .f64 r2 ∧
      Fr [] hv hv2 ∧
      ∃ b3 o3, aA = some ⟨b3, o3, none⟩ ∧ 0 ≤ i ∧ i < (aL : Nat) ∧ ∃ x3 : Nat, hcell hv2 b3 ((o3 + (Int.toNat i) * 2) + 1) = some (.float .f64 x3) ∧ ∃ b4 o4, bA = some ⟨b4, o4, none⟩ ∧ 0 ≤ i ∧ i < (bL : Nat) ∧ ∃ x4 : Nat, hcell hv2 b4 ((o4 + (Int.toNat i) * 2) + 1) = some (.float .f64 x4) ∧ ∀ r3, FRes .f64 x3 x4 ((FloatKind.f64).format.sub x3 x4) r3 → Fr [] hv2 hv2 ∧
      callX Try.prog 56 #[.float .f64 r3] hv2 [] fun v2 hv3 =>
      ∃ r4 : Nat, v2 = .float .f64 r4 ∧
      Fr [] hv2 hv3 ∧
      callX Try.prog 148 #[.float .f64 best, .float .f64 r2] hv3 [] fun v3 hv4 =>
      ∃ r5 : Bool, v3 = .bool r5 ∧
      ∃ Jv : List Value → Heap → Prop, -- join 47 ['best']
      ( cnd r5
         (Jv [.float .f64 r2] hv4)
         (Jv [.float .f64 best] hv4)) ∧
      ∀ best2 : Nat, ∀ hv5, Jv [.float .f64 best2] hv5 →
      callX Try.prog 148 #[.float .f64 best2, .float .f64 r4] hv5 [] fun v4 hv6 =>
      ∃ r6 : Bool, v4 = .bool r6 ∧
      ∃ Jv2 : List Value → Heap → Prop, -- join 51 ['best']
      ( cnd r6
         (Jv2 [.float .f64 r4] hv6)
         (Jv2 [.float .f64 best2] hv6)) ∧
      ∀ best3 : Nat, ∀ hv7, Jv2 [.float .f64 best3] hv7 →
      Iv [.float .f64 best3, .int .i64 (IntKind.i64.wrap (i + (1 : Int)))] hv7 ∧ m [.float .f64 best3, .int .i64 (IntKind.i64.wrap (i + (1 : Int)))] hv7 < m [.float .f64 best, .int .i64 i] hv)
      (callX Try.prog 143 #[.float .f64 best] hv [] fun v5 hv8 =>
      ∃ r7 : Nat, v5 = .float .f64 r7 ∧
      R (.tuple #[.float .f64 r7, .int .i64 0]) hv8))

theorem calls52 {h : Heap} {R : Value → Heap → Prop} (aA : Option Addr) (aL aC : Nat) (bA : Option Addr) (bL bC : Nat) (H : S52 aA aL aC bA bL bC h R) : CallsH Try.prog 52 #[.slice aA aL aC, .slice bA bL bC] h R := by
  have e : S52 aA aL aC bA bL bC h R = FX (envX [] 55) { loops := [(0, ⟨[0, 1], [6, 7], [], []⟩)], joins := [(47, ⟨[0, 1, 7, 9], [6], [], []⟩), (51, ⟨[0, 1, 7], [6], [], []⟩)], blocks := [], draws := [(7, ⟨13, false⟩), (8, ⟨13, false⟩)] } Try.f52 (Try.f52.body.getD .skip) [.slice aA aL aC, .slice bA bL bC] h R := by kernel_rfl
  exact calls_of_FX (envX_ok _ _) Try.func52 (by kernel_rfl) (by kernel_rfl) (by kernel_rfl) (e ▸ H)

/-- tracery/traceryref28.Moved -/
def Ok52 (aV : List (Nat × Nat)) (bV : List (Nat × Nat)) (R : Nat → Int → Prop) : Prop :=
  ∀ (h : Heap) (aA : Option Addr) (aL aC : Nat) (bA : Option Addr) (bL bC : Nat), Hp h [Ck.vw eFF aA aL aC aV, Ck.vw eFF bA bL bC bV] → CallsH Try.prog 52 #[.slice aA aL aC, .slice bA bL bC] h fun v h' => ∃ (raV : Nat) (rbV : Int), Sy h [] h' [] ∧ v = .tuple #[.float .f64 raV, .int .i64 rbV] ∧ R raV rbV
theorem Ok52.mono {aV bV} {R R' : Nat → Int → Prop} (H : Ok52 aV bV R) (kz : ∀ raV rbV, R raV rbV → R' raV rbV) : Ok52 aV bV R' :=
  fun h aA aL aC bA bL bC hp => (H h aA aL aC bA bL bC hp).mono fun _ _ ⟨raV, rbV, P, e, q⟩ => ⟨raV, rbV, P, e, kz _ _ q⟩

def T52 (aV : List (Nat × Nat)) (bV : List (Nat × Nat)) (R : Nat → Int → Prop) : Prop :=
  cnd (((aV.length : Nat) : Int) != ((bV.length : Nat) : Int))
    (R 0 1)
    (∃ (Iv : Nat → Int → Prop) (m : Nat → Int → Nat), Iv 0 0 ∧
    ∀ best : Nat, ∀ i : Int, Iv best i →
    cnd (decide (i < ((aV.length : Nat) : Int)))
      (0 ≤ i ∧ i < ((aV.length : Nat) : Int) ∧ ∀ a : (Nat × Nat), aV[(Int.toNat i)]? = some a → 0 ≤ i ∧ i < ((bV.length : Nat) : Int) ∧ ∀ b_4 : (Nat × Nat), bV[(Int.toNat i)]? = some b_4 → ∀ r : Nat, FRes .f64 a.1 b_4.1 ((FloatKind.f64).format.sub a.1 b_4.1) r → Ok56 r (fun r2 =>
      ∀ r3 : Nat, FRes .f64 a.2 b_4.2 ((FloatKind.f64).format.sub a.2 b_4.2) r3 → Ok56 r3 (fun r4 =>
      Ok148 best r2 (fun r5 =>
      ∃ Jv : Nat → Prop,
      ( cnd r5
         (Jv r2)
         (Jv best)) ∧
      ∀ best2 : Nat, Jv best2 →
      Ok148 best2 r4 (fun r6 =>
      ∃ Jv2 : Nat → Prop,
      ( cnd r6
         (Jv2 r4)
         (Jv2 best2)) ∧
      ∀ best3 : Nat, Jv2 best3 →
      Iv best3 (IntKind.i64.wrap (i + (1 : Int))) ∧ m best3 (IntKind.i64.wrap (i + (1 : Int))) < m best i)))))
      (Ok143 best (fun r7 =>
      R r7 0)))

theorem ok52 {aV bV} {R : Nat → Int → Prop} (T : T52 aV bV R) : Ok52 aV bV R := by
  intro h aA aL aC bA bL bC H
  have Y : Sy h [] h _ := Sy.startM H rfl
  obtain rfl := Y.lenV 0 rfl
  obtain rfl := Y.lenV 1 rfl
  apply calls52
  unfold S52
  unfold T52 at T
  refine cnd_imp T (fun T => ?_) (fun T => ?_)
  · exact ⟨_, _, Y.pick [] rfl, rfl, T⟩
  · obtain ⟨Iv, m, T0, T1⟩ := T
    obtain ⟨B, hB, YB⟩ := Y.cut [] [0, 1] rfl
    obtain ⟨JJ, hJJ⟩ : ∃ JJ : Nat → List Value → Heap → Prop, JJ = (fun k lz h' => ∃ (best : Nat) (i : Int), lz = [.float .f64 best, .int .i64 i] ∧ Sy h [] h' ([] ++ B) ∧ Iv best i ∧ m best i = k) := ⟨_, rfl⟩
    refine ⟨fun lz h' => ∃ k, JJ k lz h', Lm JJ, ?_, ?_⟩
    · subst hJJ hB
      exact ⟨_, _, _, rfl, YB, T0, rfl⟩
    · clear YB T0 Y
      intro best i hv hI
      obtain ⟨k, hI, hm⟩ := loopIn hI
      subst hJJ hB
      obtain ⟨best, i, e, Y, T, rfl⟩ := hI
      cases e
      replace T := T1 best i T
      have Y : Sy _ _ _ [_, _] := Y
      refine cnd_imp T (fun T => ?_) (fun T => ?_)
      · have Y0 := Y
        have F : Fr [] hv hv := Fr.refl _ _
        obtain ⟨q, q_2, T⟩ := T
        obtain ⟨b_2, o_2, hb, hr, a, hx⟩ := Y0.atV 0 rfl q q_2
        refine ⟨b_2, o_2, hb, q, q_2, ?_⟩
        replace T := T a hx
        refine ⟨_, Y0.cellV 0 rfl hb (t := 0) hx rfl, ?_⟩
        obtain ⟨q_3, q_4, T⟩ := T
        obtain ⟨b_3, o_3, hb_2, hr_2, b_4, hx_2⟩ := Y0.atV 1 rfl q_3 q_4
        refine ⟨b_3, o_3, hb_2, q_3, q_4, ?_⟩
        replace T := T b_4 hx_2
        refine ⟨_, Y0.cellV 1 rfl hb_2 (t := 0) hx_2 rfl, ?_⟩
        intro r hq
        replace T := T r hq
        refine ⟨F, ?_⟩
        refine callX_sy (T _ (Hp.nil _)) (fun _ _ ⟨_, p, _⟩ => p.fr) alln ?_
        rintro v hv2 ⟨r2, PP, rfl, T⟩
        have F : Fr _ _ hv2 := F.trans PP.fr.nil
        have fshv2 := F.size
        have Y : Sy _ _ hv2 [_, _] := Y.gr PP.fr
        clear PP
        refine ⟨r2, rfl, ?_⟩
        refine ⟨F, ?_⟩
        have Y0 := Y
        have F : Fr [] hv2 hv2 := Fr.refl _ _
        refine ⟨b_2, o_2, hb, q, q_2, ?_⟩
        refine ⟨_, Y0.cellV 0 rfl hb (t := 1) hx rfl, ?_⟩
        refine ⟨b_3, o_3, hb_2, q_3, q_4, ?_⟩
        refine ⟨_, Y0.cellV 1 rfl hb_2 (t := 1) hx_2 rfl, ?_⟩
        intro r3 hq
        replace T := T r3 hq
        refine ⟨F, ?_⟩
        refine callX_sy (T _ (Hp.nil _)) (fun _ _ ⟨_, p, _⟩ => p.fr) alln ?_
        rintro v2 hv3 ⟨r4, PP, rfl, T⟩
        have F : Fr _ _ hv3 := F.trans PP.fr.nil
        have fshv3 := F.size
        have Y : Sy _ _ hv3 [_, _] := Y.gr PP.fr
        clear PP
        refine ⟨r4, rfl, ?_⟩
        refine ⟨F, ?_⟩
        refine callX_sy (T _ (Hp.nil _)) (fun _ _ ⟨_, p, _⟩ => p.fr) alln ?_
        rintro v3 hv4 ⟨r5, PP, rfl, T⟩
        have Y : Sy _ _ hv4 [_, _] := Y.gr PP.fr
        clear PP
        refine ⟨r5, rfl, ?_⟩
        obtain ⟨Jv, T0, T1⟩ := T
        obtain ⟨B_2, hB_2, _⟩ := Y.cut [] [0, 1] rfl
        refine ⟨fun lz h' => ∃ (best2 : Nat), lz = [.float .f64 best2] ∧ Sy h [] h' ([] ++ B_2) ∧ Jv best2, ?_, ?_⟩
        · subst hB_2
          replace T := T0
          clear T0 T1
          refine cnd_imp T (fun T => ?_) (fun T => ?_)
          · exact ⟨_, rfl, Y.pick [0, 1] rfl, T⟩
          · exact ⟨_, rfl, Y.pick [0, 1] rfl, T⟩
        · subst hB_2
          clear T0 Y
          rintro best2 hv5 ⟨best2, e, Y, T⟩
          cases e
          replace T := T1 best2 T
          have Y : Sy _ _ _ [_, _] := Y
          refine callX_sy (T _ (Hp.nil _)) (fun _ _ ⟨_, p, _⟩ => p.fr) alln ?_
          rintro v4 hv6 ⟨r6, PP, rfl, T⟩
          have Y : Sy _ _ hv6 [_, _] := Y.gr PP.fr
          clear PP
          refine ⟨r6, rfl, ?_⟩
          obtain ⟨Jv2, T0, T1⟩ := T
          obtain ⟨B_3, hB_3, _⟩ := Y.cut [] [0, 1] rfl
          refine ⟨fun lz h' => ∃ (best3 : Nat), lz = [.float .f64 best3] ∧ Sy h [] h' ([] ++ B_3) ∧ Jv2 best3, ?_, ?_⟩
          · subst hB_3
            replace T := T0
            clear T0 T1
            refine cnd_imp T (fun T => ?_) (fun T => ?_)
            · exact ⟨_, rfl, Y.pick [0, 1] rfl, T⟩
            · exact ⟨_, rfl, Y.pick [0, 1] rfl, T⟩
          · subst hB_3
            clear T0 Y
            rintro best3 hv7 ⟨best3, e, Y, T⟩
            cases e
            replace T := T1 best3 T
            have Y : Sy _ _ _ [_, _] := Y
            exact loopBack hm ⟨_, _, rfl, Y.pick [0, 1] rfl, T.1, rfl⟩ T.2
      · refine callX_sy (T _ (Hp.nil _)) (fun _ _ ⟨_, p, _⟩ => p.fr) alln ?_
        rintro v5 hv8 ⟨r7, PP, rfl, T⟩
        have Y : Sy _ _ hv8 [_, _] := Y.gr PP.fr
        clear PP
        refine ⟨r7, rfl, ?_⟩
        exact ⟨_, _, Y.pick [] rfl, rfl, T⟩

/-- math.IsNaN -/
def S57 (f : Nat) (h : Heap) (R : Value → Heap → Prop) : Prop :=
  R (.bool ((FloatKind.f64).format.order f f != some .eq)) h

theorem calls57 {h : Heap} {R : Value → Heap → Prop} (f : Nat) (H : S57 f h R) : CallsH Try.prog 57 #[.float .f64 f] h R := by
  have e : S57 f h R = FX (envX [] 6) { loops := [], joins := [], blocks := [], draws := [] } Try.f57 (Try.f57.body.getD .skip) [.float .f64 f] h R := by kernel_rfl
  exact calls_of_FX (envX_ok _ _) Try.func57 (by kernel_rfl) (by kernel_rfl) (by kernel_rfl) (e ▸ H)

/-- math.IsNaN -/
def Ok57 (f : Nat) (R : Bool → Prop) : Prop :=
  ∀ (h : Heap), Hp h [] → CallsH Try.prog 57 #[.float .f64 f] h fun v h' => ∃ (rV : Bool), Sy h [] h' [] ∧ v = .bool rV ∧ R rV
theorem Ok57.mono {f} {R R' : Bool → Prop} (H : Ok57 f R) (kz : ∀ rV, R rV → R' rV) : Ok57 f R' :=
  fun h  hp => (H h  hp).mono fun _ _ ⟨rV, P, e, q⟩ => ⟨rV, P, e, kz _ q⟩

def T57 (f : Nat) (R : Bool → Prop) : Prop :=
  R ((FloatKind.f64).format.order f f != some .eq)

theorem ok57 {f} {R : Bool → Prop} (T : T57 f R) : Ok57 f R := by
  intro h  H
  have Y : Sy h [] h _ := Sy.startM H rfl
  apply calls57
  unfold S57
  unfold T57 at T
  exact ⟨_, Y.pick [] rfl, rfl, T⟩

end Go.Proofs.Ytmcloipjlihhlaa.N
