/- Functions: what is left to be shown of each, over memory and without: printed by program, tied to the loaded functions by the kernel. Conditions: none. -/
import Derived.Test.YtmcloipjlihhlaaSEnv
import Derived.Test.YtmcloipjlihhlaaYMore
import Derived.Test.YtmcloipjlihhlaaTRef
import Derived.Test.YtmcloipjlihhlaaTKuraL
import Derived.Test.YtmcloipjlihhlaaTKeep
namespace Go.Proofs.Ytmcloipjlihhlaa.N
open Go.Proofs.Ytmcloipjlihhlaa
open Go.X
set_option maxRecDepth 100000
set_option linter.unusedVariables false
set_option linter.unusedSimpArgs false
set_option maxHeartbeats 2000000

/-- tracery/traceryref3.Lists -/
def S69 (aA : Option Addr) (aL aC : Nat) (bA : Option Addr) (bL bC : Nat) (h : Heap) (R : Value → Heap → Prop) : Prop :=
  cnd (((aL : Nat) : Int) != ((bL : Nat) : Int))
    (R (.bool false) h)
    (∃ (Iv : List Value → Heap → Prop) (m : List Value → Heap → Nat), Iv [.int .i64 0] h ∧ -- loop 0: ['i']
    ∀ i : Int, ∀ hv, Iv [.int .i64 i] hv →
    cnd (decide (i < ((aL : Nat) : Int)))
      (∃ b o, aA = some ⟨b, o, none⟩ ∧ 0 ≤ i ∧ i < (aL : Nat) ∧ ∃ (xA : Option Addr) (xL xC : Nat), hcell hv b (o + (Int.toNat i) * 1) = some (.slice xA xL xC) ∧ ∃ b2 o2, bA = some ⟨b2, o2, none⟩ ∧ 0 ≤ i ∧ i < (bL : Nat) ∧ ∃ (xA2 : Option Addr) (xL2 xC2 : Nat), hcell hv b2 (o2 + (Int.toNat i) * 1) = some (.slice xA2 xL2 xC2) ∧ callX Try.prog 68 #[.slice xA xL xC, .slice xA2 xL2 xC2] hv [] fun v hv2 =>
      ∃ r : Bool, v = .bool r ∧
      Fr [] hv hv2 ∧
      cnd (!r)
        (R (.bool false) hv2)
        (Iv [.int .i64 (IntKind.i64.wrap (i + (1 : Int)))] hv2 ∧ m [.int .i64 (IntKind.i64.wrap (i + (1 : Int)))] hv2 < m [.int .i64 i] hv))
      (R (.bool true) hv))
theorem calls69 {h : Heap} {R : Value → Heap → Prop} (aA : Option Addr) (aL aC : Nat) (bA : Option Addr) (bL bC : Nat) (H : S69 aA aL aC bA bL bC h R) : CallsH Try.prog 69 #[.slice aA aL aC, .slice bA bL bC] h R := by
  have e : S69 aA aL aC bA bL bC h R = FX (envX [] 27) { loops := [(0, ⟨[0, 1], [5], [], []⟩)], joins := [], blocks := [], draws := [(6, ⟨10, false⟩)] } Try.f69 (Try.f69.body.getD .skip) [.slice aA aL aC, .slice bA bL bC] h R := by kernel_rfl
  exact calls_of_FX (envX_ok _ _) Try.func69 (by kernel_rfl) (by kernel_rfl) (by kernel_rfl) (e ▸ H)
/-- tracery/traceryref3.Lists -/
def Ok69 (aV : List (List Int)) (bV : List (List Int)) (R : Bool → Prop) : Prop :=
  ∀ (h : Heap) (aA : Option Addr) (aL aC : Nat) (aH : List RowH) (bA : Option Addr) (bL bC : Nat) (bH : List RowH), Hp h [Ck.vrows eI aA aL aC aH aV, Ck.vrows eI bA bL bC bH bV] → CallsH Try.prog 69 #[.slice aA aL aC, .slice bA bL bC] h fun v h' => ∃ (rV : Bool), Sy h [] h' [] ∧ v = .bool rV ∧ R rV
theorem Ok69.mono {aV bV} {R R' : Bool → Prop} (H : Ok69 aV bV R) (kz : ∀ rV, R rV → R' rV) : Ok69 aV bV R' :=
  fun h aA aL aC aH bA bL bC bH hp => (H h aA aL aC aH bA bL bC bH hp).mono fun _ _ ⟨rV, P, e, q⟩ => ⟨rV, P, e, kz _ q⟩
def T69 (aV : List (List Int)) (bV : List (List Int)) (R : Bool → Prop) : Prop :=
  cnd (((aV.length : Nat) : Int) != ((bV.length : Nat) : Int))
    (R false)
    (∃ (Iv : Int → Prop) (m : Int → Nat), Iv 0 ∧
    ∀ i : Int, Iv i →
    cnd (decide (i < ((aV.length : Nat) : Int)))
      (0 ≤ i ∧ i < ((aV.length : Nat) : Int) ∧ ∀ a : List Int, aV[(Int.toNat i)]? = some a → 0 ≤ i ∧ i < ((bV.length : Nat) : Int) ∧ ∀ b_4 : List Int, bV[(Int.toNat i)]? = some b_4 → Ok68 a b_4 (fun r =>
      cnd (!r)
        (R false)
        (Iv (IntKind.i64.wrap (i + (1 : Int))) ∧ m (IntKind.i64.wrap (i + (1 : Int))) < m i)))
      (R true))
theorem ok69 {aV bV} {R : Bool → Prop} (T : T69 aV bV R) : Ok69 aV bV R := by
  intro h aA aL aC aH bA bL bC bH H
  have Y : Sy h [] h _ := Sy.startM H rfl
  obtain rfl := Y.lenW 0 rfl
  obtain rfl := Y.lenW 1 rfl
  apply calls69
  unfold S69
  unfold T69 at T
  refine cnd_imp T (fun T => ?_) (fun T => ?_)
  · exact ⟨_, Y.pick [] rfl, rfl, T⟩
  · obtain ⟨Iv, m, T0, T1⟩ := T
    obtain ⟨B, hB, YB⟩ := Y.cut [] [0, 1] rfl
    obtain ⟨JJ, hJJ⟩ : ∃ JJ : Nat → List Value → Heap → Prop, JJ = (fun k lz h' => ∃ (i : Int), lz = [.int .i64 i] ∧ Sy h [] h' ([] ++ B) ∧ Iv i ∧ m i = k) := ⟨_, rfl⟩
    refine ⟨fun lz h' => ∃ k, JJ k lz h', Lm JJ, ?_, ?_⟩
    · subst hJJ hB
      exact ⟨_, _, rfl, YB, T0, rfl⟩
    · clear YB T0 Y
      intro i hv hI
      obtain ⟨k, hI, hm⟩ := loopIn hI
      subst hJJ hB
      obtain ⟨i, e, Y, T, rfl⟩ := hI
      cases e
      replace T := T1 i T
      have Y : Sy _ _ _ [_, _] := Y
      refine cnd_imp T (fun T => ?_) (fun T => ?_)
      · have Y0 := Y
        have F : Fr [] hv hv := Fr.refl _ _
        obtain ⟨q, q_2, T⟩ := T
        obtain ⟨b_2, o_2, hb, hr_2, a, hx, r_2, hr⟩ := Y0.atW 0 rfl q q_2
        refine ⟨b_2, o_2, hb, q, q_2, ?_⟩
        replace T := T a hx
        refine ⟨_, _, _, Y0.cellWR 0 rfl hb hr hx, ?_⟩
        obtain ⟨q_3, q_4, T⟩ := T
        obtain ⟨b_3, o_3, hb_2, hr_4, b_4, hx_2, r_3, hr_3⟩ := Y0.atW 1 rfl q_3 q_4
        refine ⟨b_3, o_3, hb_2, q_3, q_4, ?_⟩
        replace T := T b_4 hx_2
        refine ⟨_, _, _, Y0.cellWR 1 rfl hb_2 hr_3 hx_2, ?_⟩
        refine callX_sy (T _ _ _ _ _ _ _ (((Y.turn 0 rfl (To.rowvw hr hx (Y.rowLen 0 rfl hr hx))).turn 1 rfl (To.rowvw hr_3 hx_2 (Y.rowLen 1 rfl hr_3 hx_2))).pick [0, 1] rfl).hp) (fun _ _ ⟨_, p, _⟩ => p.fr) alln ?_
        rintro v hv2 ⟨r, PP, rfl, T⟩
        have F : Fr _ _ hv2 := F.trans PP.fr.nil
        have fshv2 := F.size
        have Y : Sy _ _ hv2 [_, _] := Y.gr PP.fr
        clear PP
        refine ⟨r, rfl, ?_⟩
        refine ⟨F, ?_⟩
        refine cnd_imp T (fun T => ?_) (fun T => ?_)
        · exact ⟨_, Y.pick [] rfl, rfl, T⟩
        · exact loopBack hm ⟨_, rfl, Y.pick [0, 1] rfl, T.1, rfl⟩ T.2
      · exact ⟨_, Y.pick [] rfl, rfl, T⟩
/-- tracery/traceryref3.Twin -/
def S205 (hv : Int) (h : Heap) (R : Value → Heap → Prop) : Prop :=
  (2 : Int) ≠ 0 ∧ cnd ((Int.tmod hv (2 : Int)) == (0 : Int))
    (R (.int .i64 (IntKind.i64.wrap (hv + (1 : Int)))) h)
    (R (.int .i64 (IntKind.i64.wrap (hv - (1 : Int)))) h)
theorem calls205 {h : Heap} {R : Value → Heap → Prop} (hv : Int) (H : S205 hv h R) : CallsH Try.prog 205 #[.int .i64 hv] h R := by
  have e : S205 hv h R = FX (envX [] 10) { loops := [], joins := [], blocks := [], draws := [] } Try.f205 (Try.f205.body.getD .skip) [.int .i64 hv] h R := by kernel_rfl
  exact calls_of_FX (envX_ok _ _) Try.func205 (by kernel_rfl) (by kernel_rfl) (by kernel_rfl) (e ▸ H)
/-- tracery/traceryref3.Twin -/
def Ok205 (hv : Int) (R : Int → Prop) : Prop :=
  ∀ (h : Heap), Hp h [] → CallsH Try.prog 205 #[.int .i64 hv] h fun v h' => ∃ (rV : Int), Sy h [] h' [] ∧ v = .int .i64 rV ∧ R rV
theorem Ok205.mono {hv} {R R' : Int → Prop} (H : Ok205 hv R) (kz : ∀ rV, R rV → R' rV) : Ok205 hv R' :=
  fun h  hp => (H h  hp).mono fun _ _ ⟨rV, P, e, q⟩ => ⟨rV, P, e, kz _ q⟩
def T205 (hv : Int) (R : Int → Prop) : Prop :=
  (2 : Int) ≠ 0 ∧ cnd ((Int.tmod hv (2 : Int)) == (0 : Int))
    (R (IntKind.i64.wrap (hv + (1 : Int))))
    (R (IntKind.i64.wrap (hv - (1 : Int))))
theorem ok205 {hv} {R : Int → Prop} (T : T205 hv R) : Ok205 hv R := by
  intro h  H
  have Y : Sy h [] h _ := Sy.startM H rfl
  apply calls205
  unfold S205
  unfold T205 at T
  obtain ⟨q, T⟩ := T
  refine ⟨q, ?_⟩
  refine cnd_imp T (fun T => ?_) (fun T => ?_)
  · exact ⟨_, Y.pick [] rfl, rfl, T⟩
  · exact ⟨_, Y.pick [] rfl, rfl, T⟩
/-- tracery/traceryref12.degrees -/
def S151 (g : Int) (gA : Option Addr) (gL gC : Nat) (edgesA : Option Addr) (edgesL edgesC : Nat) (h : Heap) (R : Value → Heap → Prop) : Prop :=
  let hv : Heap := h.push (.cells #[.int .i64 g, .slice gA gL gC] 26)
  0 ≤ g ∧ g ≤ g ∧ ((8 : Nat) : Int) * g ≤ 281474976710656 ∧ g ≤ 9223372036854775807 ∧ let hv2 : Heap := hv.push (.cells (madeCells (List.toArray [.int .i64 0]) (Int.toNat g * 1)) 3)
  ∃ (Iv : List Value → Heap → Prop) (m : List Value → Heap → Nat), Iv [.int .i64 0] hv2 ∧ -- loop 0: ['i']
  ∀ i : Int, ∀ hv3, Iv [.int .i64 i] hv3 →
  cnd (decide (i < ((edgesL : Nat) : Int)))
    (∃ b o, edgesA = some ⟨b, o, none⟩ ∧ 0 ≤ i ∧ i < (edgesL : Nat) ∧ ∃ x : Int, hcell hv3 b (o + (Int.toNat i) * 1) = some (.int .i64 x) ∧ ∃ b2 o2, gA = some ⟨b2, o2, none⟩ ∧ 0 ≤ x ∧ x < (gL : Nat) ∧ ∃ x2 : Int, hcell hv3 b2 ((o2 + (Int.toNat x) * 2) + 0) = some (.int .i64 x2) ∧ ∃ b3 o3, (some (⟨hv.size, 0, none⟩ : Addr)) = some ⟨b3, o3, none⟩ ∧ 0 ≤ x2 ∧ x2 < ((Int.toNat g) : Nat) ∧ ∃ x3 : Int, hcell hv3 b3 (o3 + (Int.toNat x2) * 1) = some (.int .i64 x3) ∧ ∃ b4 o4, (some (⟨hv.size, 0, none⟩ : Addr)) = some ⟨b4, o4, none⟩ ∧ 0 ≤ x2 ∧ x2 < ((Int.toNat g) : Nat) ∧ b4 ≠ h.size ∧ (∃ u, hcell hv3 b4 (o4 + (Int.toNat x2) * 1) = some u) ∧ hfree hv3 b4 (o4 + (Int.toNat x2) * 1) = true ∧ let hv4 : Heap := hset hv3 b4 (o4 + (Int.toNat x2) * 1) (.int .i64 (IntKind.i64.wrap (x3 + (1 : Int))))
    ∃ b5 o5, edgesA = some ⟨b5, o5, none⟩ ∧ 0 ≤ i ∧ i < (edgesL : Nat) ∧ ∃ x4 : Int, hcell hv4 b5 (o5 + (Int.toNat i) * 1) = some (.int .i64 x4) ∧ ∃ b6 o6, gA = some ⟨b6, o6, none⟩ ∧ 0 ≤ x4 ∧ x4 < (gL : Nat) ∧ ∃ x5 : Int, hcell hv4 b6 ((o6 + (Int.toNat x4) * 2) + 1) = some (.int .i64 x5) ∧ ∃ b7 o7, (some (⟨hv.size, 0, none⟩ : Addr)) = some ⟨b7, o7, none⟩ ∧ 0 ≤ x5 ∧ x5 < ((Int.toNat g) : Nat) ∧ ∃ x6 : Int, hcell hv4 b7 (o7 + (Int.toNat x5) * 1) = some (.int .i64 x6) ∧ ∃ b8 o8, (some (⟨hv.size, 0, none⟩ : Addr)) = some ⟨b8, o8, none⟩ ∧ 0 ≤ x5 ∧ x5 < ((Int.toNat g) : Nat) ∧ b8 ≠ h.size ∧ (∃ u, hcell hv4 b8 (o8 + (Int.toNat x5) * 1) = some u) ∧ hfree hv4 b8 (o8 + (Int.toNat x5) * 1) = true ∧ let hv5 : Heap := hset hv4 b8 (o8 + (Int.toNat x5) * 1) (.int .i64 (IntKind.i64.wrap (x6 + (1 : Int))))
    Iv [.int .i64 (IntKind.i64.wrap (i + (1 : Int)))] hv5 ∧ m [.int .i64 (IntKind.i64.wrap (i + (1 : Int)))] hv5 < m [.int .i64 i] hv3)
    (R (.slice (some (⟨hv.size, 0, none⟩ : Addr)) (Int.toNat g) (Int.toNat g)) hv3)
theorem calls151 {h : Heap} {R : Value → Heap → Prop} (g : Int) (gA : Option Addr) (gL gC : Nat) (edgesA : Option Addr) (edgesL edgesC : Nat) (H : S151 g gA gL gC edgesA edgesL edgesC h R) : CallsH Try.prog 151 #[.agg #[.int .i64 g, .slice gA gL gC], .slice edgesA edgesL edgesC] h R := by
  have e : S151 g gA gL gC edgesA edgesL edgesC h R = FX (envX [2] 45) { loops := [(0, ⟨[1, 2, 5], [6], [2], []⟩)], joins := [], blocks := [], draws := [(5, ⟨14, false⟩), (6, ⟨14, false⟩)] } Try.f151 (Try.f151.body.getD .skip) [.agg #[.int .i64 g, .slice gA gL gC], .slice edgesA edgesL edgesC] h R := by kernel_rfl
  exact calls_of_FX (envX_ok _ _) Try.func151 (by kernel_rfl) (by kernel_rfl) (by kernel_rfl) (e ▸ H)
/-- tracery/traceryref12.degrees -/
def Ok151 (g : Int) (edgesV : List (Int × Int)) (edgesV2 : List Int) (R : List Int → Prop) : Prop :=
  ∀ (h : Heap) (gA : Option Addr) (gL gC : Nat) (edgesA : Option Addr) (edgesL edgesC : Nat), Hp h [Ck.vw eP gA gL gC edgesV, Ck.vw eI edgesA edgesL edgesC edgesV2] → CallsH Try.prog 151 #[.agg #[.int .i64 g, .slice gA gL gC], .slice edgesA edgesL edgesC] h fun v h' => ∃ (rVA : Option Addr) (rVL rVC : Nat) (rV : List Int), Sy h [] h' [Ck.sl eI 3 rVA rVL rVC rV] ∧ v = .slice rVA rVL rVC ∧ R rV
theorem Ok151.mono {g edgesV edgesV2} {R R' : List Int → Prop} (H : Ok151 g edgesV edgesV2 R) (kz : ∀ rV, R rV → R' rV) : Ok151 g edgesV edgesV2 R' :=
  fun h gA gL gC edgesA edgesL edgesC hp => (H h gA gL gC edgesA edgesL edgesC hp).mono fun _ _ ⟨rVA, rVL, rVC, rV, P, e, q⟩ => ⟨rVA, rVL, rVC, rV, P, e, kz _ q⟩
def T151 (g : Int) (edgesV : List (Int × Int)) (edgesV2 : List Int) (R : List Int → Prop) : Prop :=
  0 ≤ g ∧ g ≤ 1000000000000 ∧ ∃ (Iv : Int → List Int → Prop) (m : Int → List Int → Nat), Iv 0 (List.replicate (Int.toNat g) (0 : Int)) ∧
  ∀ i : Int, ∀ x_2 : List Int, Iv i x_2 →
  cnd (decide (i < ((edgesV2.length : Nat) : Int)))
    (0 ≤ i ∧ i < ((edgesV2.length : Nat) : Int) ∧ ∀ edges : Int, edgesV2[(Int.toNat i)]? = some edges → 0 ≤ edges ∧ edges < ((edgesV.length : Nat) : Int) ∧ ∀ g_2 : (Int × Int), edgesV[(Int.toNat edges)]? = some g_2 → 0 ≤ g_2.1 ∧ g_2.1 < (((Int.toNat g) : Nat) : Int) ∧ ∀ x_3 : Int, x_2[(Int.toNat g_2.1)]? = some x_3 → 0 ≤ g_2.2 ∧ g_2.2 < (((Int.toNat g) : Nat) : Int) ∧ ∀ x_4 : Int, (x_2.set (Int.toNat g_2.1) (IntKind.i64.wrap (x_3 + (1 : Int))))[(Int.toNat g_2.2)]? = some x_4 → Iv (IntKind.i64.wrap (i + (1 : Int))) ((x_2.set (Int.toNat g_2.1) (IntKind.i64.wrap (x_3 + (1 : Int)))).set (Int.toNat g_2.2) (IntKind.i64.wrap (x_4 + (1 : Int)))) ∧ m (IntKind.i64.wrap (i + (1 : Int))) ((x_2.set (Int.toNat g_2.1) (IntKind.i64.wrap (x_3 + (1 : Int)))).set (Int.toNat g_2.2) (IntKind.i64.wrap (x_4 + (1 : Int)))) < m i x_2)
    (R x_2)
theorem ok151 {g edgesV edgesV2} {R : List Int → Prop} (T : T151 g edgesV edgesV2 R) : Ok151 g edgesV edgesV2 R := by
  intro h gA gL gC edgesA edgesL edgesC H
  have Y : Sy h [] h _ := Sy.startM H rfl
  obtain rfl := Y.lenV 0 rfl
  obtain rfl := Y.lenV 1 rfl
  apply calls151
  unfold S151
  unfold T151 at T
  intro hv
  have Y : Sy _ _ hv [_, _, _] := Y.junk _
  clear_value hv
  obtain ⟨q, q_3, T⟩ := T
  refine ⟨q, Int.le_refl _, by omega, by omega, ?_⟩
  intro hv2
  have Y : Sy _ _ hv2 [_, _, _, _] := Y.mkS (E := eI) (ty := 3) (0 : Int) (Int.toNat g) (Int.toNat g) (Nat.le_refl _) (by simp [maxLen]; omega)
  clear_value hv2
  obtain ⟨Iv, m, T0, T1⟩ := T
  obtain ⟨B, hB, YB⟩ := Y.cut [3] [0, 1, 2] rfl
  obtain ⟨F, hF⟩ := Y.fnS (k := 3) rfl
  obtain ⟨JJ, hJJ⟩ : ∃ JJ : Nat → List Value → Heap → Prop, JJ = (fun k lz h' => ∃ (i : Int) (x_2 : List Int), lz = [.int .i64 i] ∧ Sy h [] h' ([F x_2] ++ B) ∧ Iv i x_2 ∧ m i x_2 = k) := ⟨_, rfl⟩
  refine ⟨fun lz h' => ∃ k, JJ k lz h', Lm JJ, ?_, ?_⟩
  · subst hJJ hB hF
    exact ⟨_, _, _, rfl, YB, T0, rfl⟩
  · clear YB T0 Y
    intro i hv3 hI
    obtain ⟨k, hI, hm⟩ := loopIn hI
    subst hJJ hB hF
    obtain ⟨i, x_2, e, Y, T, rfl⟩ := hI
    cases e
    replace T := T1 i x_2 T
    have Y : Sy _ _ _ [_, _, _, _] := Y
    refine cnd_imp T (fun T => ?_) (fun T => ?_)
    · have Y0 := Y
      have F : Fr [] hv3 hv3 := Fr.refl _ _
      obtain ⟨q_4, q_5, T⟩ := T
      obtain ⟨b_2, o_2, hb, hr, edges, hx⟩ := Y0.atV 2 rfl q_4 q_5
      refine ⟨b_2, o_2, hb, q_4, q_5, ?_⟩
      replace T := T edges hx
      refine ⟨_, Y0.cellV 2 rfl hb (t := 0) hx rfl, ?_⟩
      obtain ⟨q_6, q_7, T⟩ := T
      obtain ⟨b_3, o_3, hb_2, hr_2, g_2, hx_2⟩ := Y0.atV 1 rfl q_6 q_7
      refine ⟨b_3, o_3, hb_2, q_6, q_7, ?_⟩
      replace T := T g_2 hx_2
      refine ⟨_, Y0.cellV 1 rfl hb_2 (t := 0) hx_2 rfl, ?_⟩
      obtain ⟨q_8, q_9, T⟩ := T
      obtain ⟨b_4, hb_3, ho, x_3, hx_3⟩ := Y0.atS 0 rfl q_8 q_9
      refine ⟨b_4, 0, hb_3, q_8, q_9, ?_⟩
      replace T := T x_3 hx_3
      refine ⟨_, Y0.cellS 0 rfl hb_3 (t := 0) hx_3 rfl, ?_⟩
      refine ⟨b_4, 0, hb_3, q_8, q_9, ?_⟩
      refine ⟨(Y.neJ 0 3 rfl rfl rfl ho), Y.cellEx 0 rfl hb_3 (t := 0) (by omega) (by decide), Y.freeS 0 rfl hb_3 _, ?_⟩
      intro hv4
      have Y : Sy _ _ hv4 [_, _, _, _] := Y.st1 0 rfl hb_3 (IntKind.i64.wrap (x_3 + (1 : Int))) (by omega) rfl
      clear_value hv4
      have Y0 := Y
      have F : Fr [] hv4 hv4 := Fr.refl _ _
      refine ⟨b_2, o_2, hb, q_4, q_5, ?_⟩
      refine ⟨_, Y0.cellV 2 rfl hb (t := 0) hx rfl, ?_⟩
      refine ⟨b_3, o_3, hb_2, q_6, q_7, ?_⟩
      refine ⟨_, Y0.cellV 1 rfl hb_2 (t := 1) hx_2 rfl, ?_⟩
      obtain ⟨q_10, q_11, T⟩ := T
      obtain ⟨b_5, hb_4, ho_2, x_4, hx_4⟩ := Y0.atS 0 rfl q_10 q_11
      refine ⟨b_5, 0, hb_4, q_10, q_11, ?_⟩
      replace T := T x_4 hx_4
      refine ⟨_, Y0.cellS 0 rfl hb_4 (t := 0) hx_4 rfl, ?_⟩
      refine ⟨b_5, 0, hb_4, q_10, q_11, ?_⟩
      refine ⟨(Y.neJ 0 3 rfl rfl rfl ho_2), Y.cellEx 0 rfl hb_4 (t := 0) (by omega) (by decide), Y.freeS 0 rfl hb_4 _, ?_⟩
      intro hv5
      have Y : Sy _ _ hv5 [_, _, _, _] := Y.st1 0 rfl hb_4 (IntKind.i64.wrap (x_4 + (1 : Int))) (by omega) rfl
      clear_value hv5
      exact loopBack hm ⟨_, _, rfl, Y.pick [0, 1, 2, 3] rfl, T.1, rfl⟩ T.2
    · exact ⟨_, _, _, _, Y.pick [0] rfl, rfl, T⟩
/-- tracery/traceryref12.branch -/
def S152 (dA : Option Addr) (dL dC : Nat) (h : Heap) (R : Value → Heap → Prop) : Prop :=
  ∃ (Iv : List Value → Heap → Prop) (m : List Value → Heap → Nat), Iv [.int .i64 4, .int .i64 5, .int .i64 0] h ∧ -- loop 0: ['want', 'kind', 'v']
  ∀ want : Int, ∀ kind : Int, ∀ v : Int, ∀ hv, Iv [.int .i64 want, .int .i64 kind, .int .i64 v] hv →
  cnd (decide (v < ((dL : Nat) : Int)))
    (∃ b o, dA = some ⟨b, o, none⟩ ∧ 0 ≤ v ∧ v < (dL : Nat) ∧ ∃ x : Int, hcell hv b (o + (Int.toNat v) * 1) = some (.int .i64 x) ∧ ∃ Jv : List Value → Heap → Prop, -- join 19 ['want', 'kind']
    ( cnd (x == (3 : Int))
       (Jv [.int .i64 3, .int .i64 33] hv)
       (Jv [.int .i64 want, .int .i64 kind] hv)) ∧
    ∀ want2 : Int, ∀ kind2 : Int, ∀ hv2, Jv [.int .i64 want2, .int .i64 kind2] hv2 →
    Iv [.int .i64 want2, .int .i64 kind2, .int .i64 (IntKind.i64.wrap (v + (1 : Int)))] hv2 ∧ m [.int .i64 want2, .int .i64 kind2, .int .i64 (IntKind.i64.wrap (v + (1 : Int)))] hv2 < m [.int .i64 want, .int .i64 kind, .int .i64 v] hv)
    (∃ (Iv2 : List Value → Heap → Prop) (m2 : List Value → Heap → Nat), Iv2 [.slice none 0 0, .int .i64 0] hv ∧ -- loop 2: ['l', 'v']
    ∀ (lA : Option Addr) (lL lC : Nat), ∀ v2 : Int, ∀ hv3, Iv2 [.slice lA lL lC, .int .i64 v2] hv3 →
    cnd (decide (v2 < ((dL : Nat) : Int)))
      (∃ b2 o2, dA = some ⟨b2, o2, none⟩ ∧ 0 ≤ v2 ∧ v2 < (dL : Nat) ∧ ∃ x2 : Int, hcell hv3 b2 (o2 + (Int.toNat v2) * 1) = some (.int .i64 x2) ∧ let K := fun (x3 : Bool) (hv4 : Heap) =>
        (cnd x3
          (Iv2 [.slice lA lL lC, .int .i64 (IntKind.i64.wrap (v2 + (1 : Int)))] hv4 ∧ m2 [.slice lA lL lC, .int .i64 (IntKind.i64.wrap (v2 + (1 : Int)))] hv4 < m2 [.slice lA lL lC, .int .i64 v2] hv3)
          (cnd (x2 == want)
            (let hv5 : Heap := hv4.push (.cells #[.int .i64 v2] 3)
            ∃ old, Ownd hv5 3 1 lA lL lC old ∧ (∀ b ∈ ([hv4.size] : List Nat), b ∉ blkOf lA) ∧ (lL + 1) * 8 ≤ 140737488355328 ∧ (lL + 1) ≤ maxLen ∧
            ∀ sA sC hv6, Ownd hv6 3 1 sA (lL + 1) sC (old ++ [.int .i64 v2]) → Fr (blkOf lA) hv5 hv6 → ((sA = lA ∧ sC = lC) ∨ ∃ g, sA = some ⟨g, 0, none⟩ ∧ hv5.size ≤ g) → (lC < (lL + 1) → Fr [] hv5 hv6) →
            Iv2 [.slice sA (lL + 1) sC, .int .i64 (IntKind.i64.wrap (v2 + (1 : Int)))] hv6 ∧ m2 [.slice sA (lL + 1) sC, .int .i64 (IntKind.i64.wrap (v2 + (1 : Int)))] hv6 < m2 [.slice lA lL lC, .int .i64 v2] hv3)
            (R (.tuple #[.slice none 0 0, .int .i64 0]) hv4)))
      cnd (x2 == (0 : Int))
        (K (x2 == (0 : Int)) hv3)
        (K (x2 == (2 : Int)) hv3))
      (let K2 := fun (hv7 : Heap) =>
        (R (.tuple #[.slice lA lL lC, .int .i64 kind]) hv7)
      cnd (kind == (5 : Int))
        (cnd (((lL : Nat) : Int) != (5 : Int))
          (R (.tuple #[.slice none 0 0, .int .i64 0]) hv3)
          (cnd (kind == (33 : Int))
            (cnd (((lL : Nat) : Int) != (6 : Int))
              (R (.tuple #[.slice none 0 0, .int .i64 0]) hv3)
              (K2 hv3))
            (K2 hv3)))
        (cnd (kind == (33 : Int))
          (cnd (((lL : Nat) : Int) != (6 : Int))
            (R (.tuple #[.slice none 0 0, .int .i64 0]) hv3)
            (K2 hv3))
          (K2 hv3))))
theorem calls152 {h : Heap} {R : Value → Heap → Prop} (dA : Option Addr) (dL dC : Nat) (H : S152 dA dL dC h R) : CallsH Try.prog 152 #[.slice dA dL dC] h R := by
  have e : S152 dA dL dC h R = FX (envX [38] 58) { loops := [(0, ⟨[0, 4], [5, 6, 7], [], []⟩), (2, ⟨[0, 5, 6], [4, 8], [], []⟩)], joins := [(19, ⟨[0, 4, 7], [5, 6], [], []⟩)], blocks := [], draws := [] } Try.f152 (Try.f152.body.getD .skip) [.slice dA dL dC] h R := by kernel_rfl
  exact calls_of_FX (envX_ok _ _) Try.func152 (by kernel_rfl) (by kernel_rfl) (by kernel_rfl) (e ▸ H)
/-- tracery/traceryref12.branch -/
def Ok152 (dV : List Int) (R : List Int → Int → Prop) : Prop :=
  ∀ (h : Heap) (dA : Option Addr) (dL dC : Nat), Hp h [Ck.vw eI dA dL dC dV] → CallsH Try.prog 152 #[.slice dA dL dC] h fun v h' => ∃ (raVA : Option Addr) (raVL raVC : Nat) (raV : List Int) (rbV : Int), Sy h [] h' [Ck.sl eI 3 raVA raVL raVC raV] ∧ v = .tuple #[.slice raVA raVL raVC, .int .i64 rbV] ∧ R raV rbV
theorem Ok152.mono {dV} {R R' : List Int → Int → Prop} (H : Ok152 dV R) (kz : ∀ raV rbV, R raV rbV → R' raV rbV) : Ok152 dV R' :=
  fun h dA dL dC hp => (H h dA dL dC hp).mono fun _ _ ⟨raVA, raVL, raVC, raV, rbV, P, e, q⟩ => ⟨raVA, raVL, raVC, raV, rbV, P, e, kz _ _ q⟩
def T152 (dV : List Int) (R : List Int → Int → Prop) : Prop :=
  ∃ (Iv : Int → Int → Int → Prop) (m : Int → Int → Int → Nat), Iv 4 5 0 ∧
  ∀ want : Int, ∀ kind : Int, ∀ v : Int, Iv want kind v →
  cnd (decide (v < ((dV.length : Nat) : Int)))
    (0 ≤ v ∧ v < ((dV.length : Nat) : Int) ∧ ∀ d : Int, dV[(Int.toNat v)]? = some d → ∃ Jv : Int → Int → Prop,
    ( cnd (d == (3 : Int))
       (Jv 3 33)
       (Jv want kind)) ∧
    ∀ want2 : Int, ∀ kind2 : Int, Jv want2 kind2 →
    Iv want2 kind2 (IntKind.i64.wrap (v + (1 : Int))) ∧ m want2 kind2 (IntKind.i64.wrap (v + (1 : Int))) < m want kind v)
    (∃ (Iv2 : List Int → Int → Prop) (m2 : List Int → Int → Nat), Iv2 ([] : List Int) 0 ∧
    ∀ l : List Int, ∀ v2 : Int, Iv2 l v2 →
    cnd (decide (v2 < ((dV.length : Nat) : Int)))
      (0 ≤ v2 ∧ v2 < ((dV.length : Nat) : Int) ∧ ∀ d_2 : Int, dV[(Int.toNat v2)]? = some d_2 → ∃ Jv_2 : Bool → Prop,
      ( cnd (d_2 == (0 : Int))
         (Jv_2 (d_2 == (0 : Int)))
         (Jv_2 (d_2 == (2 : Int)))) ∧
      ∀ x3 : Bool, Jv_2 x3 →
      cnd x3
        (Iv2 l (IntKind.i64.wrap (v2 + (1 : Int))) ∧ m2 l (IntKind.i64.wrap (v2 + (1 : Int))) < m2 l v2)
        (cnd (d_2 == want)
          ((l.length + 1) < 1000000000000 ∧ Iv2 (l ++ [v2]) (IntKind.i64.wrap (v2 + (1 : Int))) ∧ m2 (l ++ [v2]) (IntKind.i64.wrap (v2 + (1 : Int))) < m2 l v2)
          (R ([] : List Int) 0)))
      (∃ Jv_3 : Prop,
      ( cnd (kind == (5 : Int))
         (cnd (((l.length : Nat) : Int) != (5 : Int))
           (R ([] : List Int) 0)
           (cnd (kind == (33 : Int))
             (cnd (((l.length : Nat) : Int) != (6 : Int))
               (R ([] : List Int) 0)
               (Jv_3))
             (Jv_3)))
         (cnd (kind == (33 : Int))
           (cnd (((l.length : Nat) : Int) != (6 : Int))
             (R ([] : List Int) 0)
             (Jv_3))
           (Jv_3))) ∧
      (Jv_3 →
      R l kind)))
theorem ok152 {dV} {R : List Int → Int → Prop} (T : T152 dV R) : Ok152 dV R := by
  intro h dA dL dC H
  have Y : Sy h [] h _ := Sy.startM H rfl
  obtain rfl := Y.lenV 0 rfl
  apply calls152
  unfold S152
  unfold T152 at T
  obtain ⟨Iv, m, T0, T1⟩ := T
  obtain ⟨B, hB, YB⟩ := Y.cut [] [0] rfl
  obtain ⟨JJ, hJJ⟩ : ∃ JJ : Nat → List Value → Heap → Prop, JJ = (fun k lz h' => ∃ (want : Int) (kind : Int) (v : Int), lz = [.int .i64 want, .int .i64 kind, .int .i64 v] ∧ Sy h [] h' ([] ++ B) ∧ Iv want kind v ∧ m want kind v = k) := ⟨_, rfl⟩
  refine ⟨fun lz h' => ∃ k, JJ k lz h', Lm JJ, ?_, ?_⟩
  · subst hJJ hB
    exact ⟨_, _, _, _, rfl, YB, T0, rfl⟩
  · clear YB T0 Y
    intro want kind v hv hI
    obtain ⟨k, hI, hm⟩ := loopIn hI
    subst hJJ hB
    obtain ⟨want, kind, v, e, Y, T, rfl⟩ := hI
    cases e
    replace T := T1 want kind v T
    have Y : Sy _ _ _ [_] := Y
    refine cnd_imp T (fun T => ?_) (fun T => ?_)
    · obtain ⟨q, q_2, T⟩ := T
      obtain ⟨b_2, o_2, hb, hr, d, hx⟩ := Y.atV 0 rfl q q_2
      refine ⟨b_2, o_2, hb, q, q_2, ?_⟩
      replace T := T d hx
      refine ⟨_, Y.cellV 0 rfl hb (t := 0) hx rfl, ?_⟩
      obtain ⟨Jv, T0, T1⟩ := T
      obtain ⟨B_2, hB_2, _⟩ := Y.cut [] [0] rfl
      refine ⟨fun lz h' => ∃ (want2 : Int) (kind2 : Int), lz = [.int .i64 want2, .int .i64 kind2] ∧ Sy h [] h' ([] ++ B_2) ∧ Jv want2 kind2, ?_, ?_⟩
      · subst hB_2
        replace T := T0
        clear T0 T1
        refine cnd_imp T (fun T => ?_) (fun T => ?_)
        · exact ⟨_, _, rfl, Y.pick [0] rfl, T⟩
        · exact ⟨_, _, rfl, Y.pick [0] rfl, T⟩
      · subst hB_2
        clear T0 Y
        rintro want2 kind2 hv2 ⟨want2, kind2, e, Y, T⟩
        cases e
        replace T := T1 want2 kind2 T
        have Y : Sy _ _ _ [_] := Y
        exact loopBack hm ⟨_, _, _, rfl, Y.pick [0] rfl, T.1, rfl⟩ T.2
    · have Y : Sy _ _ _ [_, _] := Y.nilS eI 3
      obtain ⟨Iv2, m2, T0, T1⟩ := T
      obtain ⟨B_3, hB_3, YB⟩ := Y.cut [1] [0] rfl
      obtain ⟨JJ_2, hJJ_2⟩ : ∃ JJ_2 : Nat → List Value → Heap → Prop, JJ_2 = (fun k_2 lz h' => ∃ (lA : Option Addr) (lL lC : Nat) (l : List Int) (v2 : Int), lz = [.slice lA lL lC, .int .i64 v2] ∧ Sy h [] h' ([Ck.sl eI 3 lA lL lC l] ++ B_3) ∧ Iv2 l v2 ∧ m2 l v2 = k_2) := ⟨_, rfl⟩
      refine ⟨fun lz h' => ∃ k_2, JJ_2 k_2 lz h', Lm JJ_2, ?_, ?_⟩
      · subst hJJ_2 hB_3
        exact ⟨_, _, _, _, _, _, rfl, YB, T0, rfl⟩
      · clear YB T0 Y
        intro lA lL lC v2 hv3 hI
        obtain ⟨k_2, hI, hm_2⟩ := loopIn hI
        subst hJJ_2 hB_3
        obtain ⟨lA, lL, lC, l, v2, e, Y, T, rfl⟩ := hI
        cases e
        obtain rfl := Y.lenS 0 rfl
        replace T := T1 l v2 T
        have Y : Sy _ _ _ [_, _] := Y
        refine cnd_imp T (fun T => ?_) (fun T => ?_)
        · obtain ⟨q_3, q_4, T⟩ := T
          obtain ⟨b_3, o_3, hb_2, hr_2, d_2, hx_2⟩ := Y.atV 1 rfl q_3 q_4
          refine ⟨b_3, o_3, hb_2, q_3, q_4, ?_⟩
          replace T := T d_2 hx_2
          refine ⟨_, Y.cellV 1 rfl hb_2 (t := 0) hx_2 rfl, ?_⟩
          obtain ⟨Jv_2, T0, T1⟩ := T
          obtain ⟨B_4, hB_4, _⟩ := Y.cut [] [0, 1] rfl
          intro K
          have hK : ∀ (x3 : Bool) (hv4 : Heap), (Sy h [] hv4 ([] ++ B_4) ∧ Jv_2 x3) → K x3 hv4 := by
            subst hB_4
            clear T0 Y
            rintro x3 hv4 ⟨Y, T⟩
            replace T := T1 x3 T
            have Y : Sy _ _ _ [_, _] := Y
            unfold K
            refine cnd_imp T (fun T => ?_) (fun T => ?_)
            · exact loopBack hm_2 ⟨_, _, _, _, _, rfl, Y.pick [0, 1] rfl, T.1, rfl⟩ T.2
            · refine cnd_imp T (fun T => ?_) (fun T => ?_)
              · intro hv5
                have Y : Sy _ _ hv5 [_, _, _] := Y.junk _
                clear_value hv5
                obtain ⟨q_5, T⟩ := T
                refine ⟨_, Y.ownS 0 rfl, (allc (Y.nJ 0 2 rfl rfl rfl) alln), by first | exact appB q_5 (by decide) | omega, by first | exact appM q_5 | (simp [maxLen]; omega), ?_⟩
                intro sA sC hv6 ow fA gA gB
                have Y : Sy _ _ hv6 [_, _, _] := Y.appS 0 rfl ([v2] : List Int) ow fA gA rfl rfl
                exact loopBack hm_2 ⟨_, _, _, _, _, rfl, Y.pick [0, 1] rfl, T.1, rfl⟩ T.2
              · have Y : Sy _ _ _ [_, _, _] := Y.nilS eI 3
                exact ⟨_, _, _, _, _, Y.pick [2] rfl, rfl, T⟩
          subst hB_4
          replace T := T0
          clear T0 T1
          refine cnd_imp T (fun T => ?_) (fun T => ?_)
          · exact hK _ _ ⟨Y.pick [0, 1] rfl, T⟩
          · exact hK _ _ ⟨Y.pick [0, 1] rfl, T⟩
        · obtain ⟨Jv_3, T0, T1⟩ := T
          obtain ⟨B_5, hB_5, _⟩ := Y.cut [] [0, 1] rfl
          intro K2
          have hK2 : ∀  (hv7 : Heap), (Sy h [] hv7 ([] ++ B_5) ∧ Jv_3) → K2 hv7 := by
            subst hB_5
            clear T0 Y
            rintro hv7 ⟨Y, T⟩
            replace T := T1 T
            have Y : Sy _ _ _ [_, _] := Y
            unfold K2
            exact ⟨_, _, _, _, _, Y.pick [0] rfl, rfl, T⟩
          subst hB_5
          replace T := T0
          clear T0 T1
          refine cnd_imp T (fun T => ?_) (fun T => ?_)
          · refine cnd_imp T (fun T => ?_) (fun T => ?_)
            · have Y : Sy _ _ _ [_, _, _] := Y.nilS eI 3
              exact ⟨_, _, _, _, _, Y.pick [2] rfl, rfl, T⟩
            · refine cnd_imp T (fun T => ?_) (fun T => ?_)
              · refine cnd_imp T (fun T => ?_) (fun T => ?_)
                · have Y : Sy _ _ _ [_, _, _] := Y.nilS eI 3
                  exact ⟨_, _, _, _, _, Y.pick [2] rfl, rfl, T⟩
                · exact hK2 _ ⟨Y.pick [0, 1] rfl, T⟩
              · exact hK2 _ ⟨Y.pick [0, 1] rfl, T⟩
          · refine cnd_imp T (fun T => ?_) (fun T => ?_)
            · refine cnd_imp T (fun T => ?_) (fun T => ?_)
              · have Y : Sy _ _ _ [_, _, _] := Y.nilS eI 3
                exact ⟨_, _, _, _, _, Y.pick [2] rfl, rfl, T⟩
              · exact hK2 _ ⟨Y.pick [0, 1] rfl, T⟩
            · exact hK2 _ ⟨Y.pick [0, 1] rfl, T⟩
/-- tracery/traceryref12.outs -/
def S153 (g : Int) (gA : Option Addr) (gL gC : Nat) (edgesA : Option Addr) (edgesL edgesC : Nat) (h : Heap) (R : Value → Heap → Prop) : Prop :=
  let hv : Heap := h.push (.cells #[.int .i64 g, .slice gA gL gC] 26)
  0 ≤ ((gL : Nat) : Int) ∧ ((gL : Nat) : Int) ≤ ((gL : Nat) : Int) ∧ ((1 : Nat) : Int) * ((gL : Nat) : Int) ≤ 281474976710656 ∧ ((gL : Nat) : Int) ≤ 9223372036854775807 ∧ let hv2 : Heap := hv.push (.cells (madeCells (List.toArray [.bool false]) (Int.toNat ((gL : Nat) : Int) * 1)) 4)
  ∃ (Iv : List Value → Heap → Prop) (m : List Value → Heap → Nat), Iv [.int .i64 0] hv2 ∧ -- loop 0: ['i']
  ∀ i : Int, ∀ hv3, Iv [.int .i64 i] hv3 →
  cnd (decide (i < ((edgesL : Nat) : Int)))
    (∃ b o, edgesA = some ⟨b, o, none⟩ ∧ 0 ≤ i ∧ i < (edgesL : Nat) ∧ ∃ x : Int, hcell hv3 b (o + (Int.toNat i) * 1) = some (.int .i64 x) ∧ ∃ b2 o2, (some (⟨hv.size, 0, none⟩ : Addr)) = some ⟨b2, o2, none⟩ ∧ 0 ≤ x ∧ x < ((Int.toNat ((gL : Nat) : Int)) : Nat) ∧ b2 ≠ h.size ∧ (∃ u, hcell hv3 b2 (o2 + (Int.toNat x) * 1) = some u) ∧ hfree hv3 b2 (o2 + (Int.toNat x) * 1) = true ∧ let hv4 : Heap := hset hv3 b2 (o2 + (Int.toNat x) * 1) (.bool true)
    Iv [.int .i64 (IntKind.i64.wrap (i + (1 : Int)))] hv4 ∧ m [.int .i64 (IntKind.i64.wrap (i + (1 : Int)))] hv4 < m [.int .i64 i] hv3)
    (0 ≤ g ∧ g ≤ g ∧ ((24 : Nat) : Int) * g ≤ 281474976710656 ∧ g ≤ 9223372036854775807 ∧ let hv5 : Heap := hv3.push (.cells (madeCells (List.toArray [.slice none 0 0]) (Int.toNat g * 1)) 40)
    ∃ (Iv2 : List Value → Heap → Prop) (m2 : List Value → Heap → Nat), Iv2 [.int .i64 0] hv5 ∧ -- loop 2: ['h']
    ∀ hv6 : Int, ∀ hv7, Iv2 [.int .i64 hv6] hv7 →
    cnd (decide (hv6 < (IntKind.i64.wrap ((2 : Int) * ((gL : Nat) : Int)))))
      ((2 : Int) ≠ 0 ∧ ∃ b3 o3, (some (⟨hv.size, 0, none⟩ : Addr)) = some ⟨b3, o3, none⟩ ∧ 0 ≤ (IntKind.i64.wrap (Int.tdiv hv6 (2 : Int))) ∧ (IntKind.i64.wrap (Int.tdiv hv6 (2 : Int))) < ((Int.toNat ((gL : Nat) : Int)) : Nat) ∧ ∃ x2 : Bool, hcell hv7 b3 (o3 + (Int.toNat (IntKind.i64.wrap (Int.tdiv hv6 (2 : Int)))) * 1) = some (.bool x2) ∧ ∃ Jv : List Value → Heap → Prop, -- join 40 []
      ( cnd x2
         (let K := fun (p : Nat) (x3 : Int) (xA4 : Option Addr) (xL4 xC4 : Nat) (hv19 : Heap) =>
           (∃ b7 o7, (some (⟨hv3.size, 0, none⟩ : Addr)) = some ⟨b7, o7, none⟩ ∧ 0 ≤ x3 ∧ x3 < ((Int.toNat g) : Nat) ∧ b7 ≠ p ∧ b7 ≠ h.size ∧ (∃ u, hcell hv19 b7 (o7 + (Int.toNat x3) * 1) = some u) ∧ hfree hv19 b7 (o7 + (Int.toNat x3) * 1) = true ∧ let hv20 : Heap := hset hv19 b7 (o7 + (Int.toNat x3) * 1) (.slice xA4 xL4 xC4)
           Jv [] hv20)
         ∃ Mv : List Nat, (∀ b ∈ ([h.size] : List Nat), b ∉ Mv) ∧
         (callX Try.prog 88 #[.agg #[.int .i64 g, .slice gA gL gC], .int .i64 hv6] hv7 [h.size] fun v hv8 =>
         ∃ r : Int, v = .int .i64 r ∧
         Fr Mv hv7 hv8 ∧
         (callX Try.prog 88 #[.agg #[.int .i64 g, .slice gA gL gC], .int .i64 hv6] hv8 [h.size] fun v2 hv9 =>
         ∃ r2 : Int, v2 = .int .i64 r2 ∧
         Fr Mv hv7 hv9 ∧
         ∃ b4 o4, (some (⟨hv3.size, 0, none⟩ : Addr)) = some ⟨b4, o4, none⟩ ∧ 0 ≤ r2 ∧ r2 < ((Int.toNat g) : Nat) ∧ b4 ∉ Mv ∧ ∃ (xA : Option Addr) (xL xC : Nat), hcell hv7 b4 (o4 + (Int.toNat r2) * 1) = some (.slice xA xL xC) ∧ let hv10 : Heap := hv9.push (.cells #[.int .i64 hv6] 3)
         Fr Mv hv7 hv10 ∧
         ∃ old, Ownd hv10 3 1 xA xL xC old ∧ (∀ b ∈ ([hv9.size, h.size] : List Nat), b ∉ blkOf xA) ∧ (xL + 1) * 8 ≤ 140737488355328 ∧ (xL + 1) ≤ maxLen ∧
         ∀ sA sC hv11, Ownd hv11 3 1 sA (xL + 1) sC (old ++ [.int .i64 hv6]) → Fr (blkOf xA) hv10 hv11 → ((sA = xA ∧ sC = xC) ∨ ∃ g, sA = some ⟨g, 0, none⟩ ∧ hv10.size ≤ g) → (xC < (xL + 1) → Fr [] hv10 hv11) →
         Fr Mv hv7 hv11 ∧
         K hv9.size r sA (xL + 1) sC hv11)
         ∧ ( let hv12 : Heap := hv8.push (.cells #[.int .i64 hv6] 3)
          Fr Mv hv7 hv12 ∧
          callX Try.prog 88 #[.agg #[.int .i64 g, .slice gA gL gC], .int .i64 hv6] hv12 [hv8.size, h.size] fun v3 hv13 =>
          ∃ r3 : Int, v3 = .int .i64 r3 ∧
          Fr Mv hv7 hv13 ∧
          ∃ b5 o5, (some (⟨hv3.size, 0, none⟩ : Addr)) = some ⟨b5, o5, none⟩ ∧ 0 ≤ r3 ∧ r3 < ((Int.toNat g) : Nat) ∧ b5 ∉ Mv ∧ ∃ (xA2 : Option Addr) (xL2 xC2 : Nat), hcell hv7 b5 (o5 + (Int.toNat r3) * 1) = some (.slice xA2 xL2 xC2) ∧ ∃ old2, Ownd hv13 3 1 xA2 xL2 xC2 old2 ∧ (∀ b ∈ ([hv8.size, h.size] : List Nat), b ∉ blkOf xA2) ∧ (xL2 + 1) * 8 ≤ 140737488355328 ∧ (xL2 + 1) ≤ maxLen ∧
          ∀ sA2 sC2 hv14, Ownd hv14 3 1 sA2 (xL2 + 1) sC2 (old2 ++ [.int .i64 hv6]) → Fr (blkOf xA2) hv13 hv14 → ((sA2 = xA2 ∧ sC2 = xC2) ∨ ∃ g, sA2 = some ⟨g, 0, none⟩ ∧ hv13.size ≤ g) → (xC2 < (xL2 + 1) → Fr [] hv13 hv14) →
          Fr Mv hv7 hv14 ∧
          K hv8.size r sA2 (xL2 + 1) sC2 hv14))
         ∧ ( let hv15 : Heap := hv7.push (.cells #[.int .i64 hv6] 3)
          Fr Mv hv7 hv15 ∧
          callX Try.prog 88 #[.agg #[.int .i64 g, .slice gA gL gC], .int .i64 hv6] hv15 [hv7.size, h.size] fun v4 hv16 =>
          ∃ r4 : Int, v4 = .int .i64 r4 ∧
          Fr Mv hv7 hv16 ∧
          callX Try.prog 88 #[.agg #[.int .i64 g, .slice gA gL gC], .int .i64 hv6] hv16 [hv7.size, h.size] fun v5 hv17 =>
          ∃ r5 : Int, v5 = .int .i64 r5 ∧
          Fr Mv hv7 hv17 ∧
          ∃ b6 o6, (some (⟨hv3.size, 0, none⟩ : Addr)) = some ⟨b6, o6, none⟩ ∧ 0 ≤ r5 ∧ r5 < ((Int.toNat g) : Nat) ∧ b6 ∉ Mv ∧ ∃ (xA3 : Option Addr) (xL3 xC3 : Nat), hcell hv7 b6 (o6 + (Int.toNat r5) * 1) = some (.slice xA3 xL3 xC3) ∧ ∃ old3, Ownd hv17 3 1 xA3 xL3 xC3 old3 ∧ (∀ b ∈ ([hv7.size, h.size] : List Nat), b ∉ blkOf xA3) ∧ (xL3 + 1) * 8 ≤ 140737488355328 ∧ (xL3 + 1) ≤ maxLen ∧
          ∀ sA3 sC3 hv18, Ownd hv18 3 1 sA3 (xL3 + 1) sC3 (old3 ++ [.int .i64 hv6]) → Fr (blkOf xA3) hv17 hv18 → ((sA3 = xA3 ∧ sC3 = xC3) ∨ ∃ g, sA3 = some ⟨g, 0, none⟩ ∧ hv17.size ≤ g) → (xC3 < (xL3 + 1) → Fr [] hv17 hv18) →
          Fr Mv hv7 hv18 ∧
          K hv7.size r4 sA3 (xL3 + 1) sC3 hv18))
         (Jv [] hv7)) ∧
      ∀ hv21, Jv [] hv21 →
      Iv2 [.int .i64 (IntKind.i64.wrap (hv6 + (1 : Int)))] hv21 ∧ m2 [.int .i64 (IntKind.i64.wrap (hv6 + (1 : Int)))] hv21 < m2 [.int .i64 hv6] hv7)
      (R (.slice (some (⟨hv3.size, 0, none⟩ : Addr)) (Int.toNat g) (Int.toNat g)) hv7))
theorem calls153 {h : Heap} {R : Value → Heap → Prop} (g : Int) (gA : Option Addr) (gL gC : Nat) (edgesA : Option Addr) (edgesL edgesC : Nat) (H : S153 g gA gL gC edgesA edgesL edgesC h R) : CallsH Try.prog 153 #[.agg #[.int .i64 g, .slice gA gL gC], .slice edgesA edgesL edgesC] h R := by
  have e : S153 g gA gL gC edgesA edgesL edgesC h R = FX (envX [2, 52] 56) { loops := [(0, ⟨[1, 2, 5], [6], [2], []⟩), (2, ⟨[2, 5, 7], [8], [2], []⟩)], joins := [(40, ⟨[2, 5, 7, 8], [], [2], []⟩)], blocks := [], draws := [(11, ⟨13, true⟩)] } Try.f153 (Try.f153.body.getD .skip) [.agg #[.int .i64 g, .slice gA gL gC], .slice edgesA edgesL edgesC] h R := by kernel_rfl
  exact calls_of_FX (envX_ok _ _) Try.func153 (by kernel_rfl) (by kernel_rfl) (by kernel_rfl) (e ▸ H)
/-- tracery/traceryref12.outs -/
def Ok153 (g : Int) (edgesV : List (Int × Int)) (edgesV2 : List Int) (R : List (List Int) → Prop) : Prop :=
  ∀ (h : Heap) (gA : Option Addr) (gL gC : Nat) (edgesA : Option Addr) (edgesL edgesC : Nat), Hp h [Ck.vw eP gA gL gC edgesV, Ck.vw eI edgesA edgesL edgesC edgesV2] → CallsH Try.prog 153 #[.agg #[.int .i64 g, .slice gA gL gC], .slice edgesA edgesL edgesC] h fun v h' => ∃ (rVA : Option Addr) (rVL rVC : Nat) (rH : List RowH) (rV : List (List Int)), Sy h [] h' [Ck.rows eI 40 3 rVA rVL rVC rH rV] ∧ v = .slice rVA rVL rVC ∧ R rV
theorem Ok153.mono {g edgesV edgesV2} {R R' : List (List Int) → Prop} (H : Ok153 g edgesV edgesV2 R) (kz : ∀ rV, R rV → R' rV) : Ok153 g edgesV edgesV2 R' :=
  fun h gA gL gC edgesA edgesL edgesC hp => (H h gA gL gC edgesA edgesL edgesC hp).mono fun _ _ ⟨rVA, rVL, rVC, rH, rV, P, e, q⟩ => ⟨rVA, rVL, rVC, rH, rV, P, e, kz _ q⟩
def T153 (g : Int) (edgesV : List (Int × Int)) (edgesV2 : List Int) (R : List (List Int) → Prop) : Prop :=
  0 ≤ ((edgesV.length : Nat) : Int) ∧ ((edgesV.length : Nat) : Int) ≤ 1000000000000 ∧ ∃ (Iv : Int → List Bool → Prop) (m : Int → List Bool → Nat), Iv 0 (List.replicate (Int.toNat ((edgesV.length : Nat) : Int)) false) ∧
  ∀ i : Int, ∀ x_2 : List Bool, Iv i x_2 →
  cnd (decide (i < ((edgesV2.length : Nat) : Int)))
    (0 ≤ i ∧ i < ((edgesV2.length : Nat) : Int) ∧ ∀ edges : Int, edgesV2[(Int.toNat i)]? = some edges → 0 ≤ edges ∧ edges < (((Int.toNat ((edgesV.length : Nat) : Int)) : Nat) : Int) ∧ Iv (IntKind.i64.wrap (i + (1 : Int))) (x_2.set (Int.toNat edges) true) ∧ m (IntKind.i64.wrap (i + (1 : Int))) (x_2.set (Int.toNat edges) true) < m i x_2)
    (0 ≤ g ∧ g ≤ 1000000000000 ∧ ∃ (Iv2 : Int → List (List Int) → Prop) (m2 : Int → List (List Int) → Nat), Iv2 0 (List.replicate (Int.toNat g) []) ∧
    ∀ hv6 : Int, ∀ x_4 : List (List Int), Iv2 hv6 x_4 →
    cnd (decide (hv6 < (IntKind.i64.wrap ((2 : Int) * ((edgesV.length : Nat) : Int)))))
      ((2 : Int) ≠ 0 ∧ 0 ≤ (IntKind.i64.wrap (Int.tdiv hv6 (2 : Int))) ∧ (IntKind.i64.wrap (Int.tdiv hv6 (2 : Int))) < (((Int.toNat ((edgesV.length : Nat) : Int)) : Nat) : Int) ∧ ∀ x_5 : Bool, x_2[(Int.toNat (IntKind.i64.wrap (Int.tdiv hv6 (2 : Int))))]? = some x_5 → ∃ Jv : List (List Int) → Prop,
      ( cnd x_5
         (∃ Jv_2 : Int → List Int → Nat → List (List Int) → Prop,
         ( Ok88 g edgesV hv6 (fun r =>
          Ok88 g edgesV hv6 (fun r2 =>
          0 ≤ r2 ∧ r2 < (((Int.toNat g) : Nat) : Int) ∧ ∀ x_8 : List Int, x_4[(Int.toNat r2)]? = some x_8 → (x_8.length + 1) < 1000000000000 ∧ Jv_2 r (x_8 ++ [hv6]) (Int.toNat r2) x_4))) ∧
         ∀ x3 : Int, ∀ x_6 : List Int, ∀ xi : Nat, ∀ x_4_3 : List (List Int), Jv_2 x3 x_6 xi x_4_3 →
         0 ≤ x3 ∧ x3 < (((Int.toNat g) : Nat) : Int) ∧ (Int.toNat x3) = xi ∧ Jv (x_4_3.set (Int.toNat x3) x_6))
         (Jv x_4)) ∧
      ∀ x_4_2 : List (List Int), Jv x_4_2 →
      Iv2 (IntKind.i64.wrap (hv6 + (1 : Int))) x_4_2 ∧ m2 (IntKind.i64.wrap (hv6 + (1 : Int))) x_4_2 < m2 hv6 x_4)
      (R x_4))
theorem ok153 {g edgesV edgesV2} {R : List (List Int) → Prop} (T : T153 g edgesV edgesV2 R) : Ok153 g edgesV edgesV2 R := by
  intro h gA gL gC edgesA edgesL edgesC H
  have Y : Sy h [] h _ := Sy.startM H rfl
  obtain rfl := Y.lenV 0 rfl
  obtain rfl := Y.lenV 1 rfl
  apply calls153
  unfold S153
  unfold T153 at T
  intro hv
  have Y : Sy _ _ hv [_, _, _] := Y.junk _
  clear_value hv
  obtain ⟨q, q_3, T⟩ := T
  refine ⟨q, Int.le_refl _, by omega, by omega, ?_⟩
  intro hv2
  have Y : Sy _ _ hv2 [_, _, _, _] := Y.mkS (E := eB) (ty := 4) false (Int.toNat ((edgesV.length : Nat) : Int)) (Int.toNat ((edgesV.length : Nat) : Int)) (Nat.le_refl _) (by simp [maxLen]; omega)
  clear_value hv2
  obtain ⟨Iv, m, T0, T1⟩ := T
  obtain ⟨B, hB, YB⟩ := Y.cut [3] [0, 1, 2] rfl
  obtain ⟨F, hF⟩ := Y.fnS (k := 3) rfl
  obtain ⟨JJ, hJJ⟩ : ∃ JJ : Nat → List Value → Heap → Prop, JJ = (fun k lz h' => ∃ (i : Int) (x_2 : List Bool), lz = [.int .i64 i] ∧ Sy h [] h' ([F x_2] ++ B) ∧ Iv i x_2 ∧ m i x_2 = k) := ⟨_, rfl⟩
  refine ⟨fun lz h' => ∃ k, JJ k lz h', Lm JJ, ?_, ?_⟩
  · subst hJJ hB hF
    exact ⟨_, _, _, rfl, YB, T0, rfl⟩
  · clear YB T0 Y
    intro i hv3 hI
    obtain ⟨k, hI, hm⟩ := loopIn hI
    subst hJJ hB hF
    obtain ⟨i, x_2, e, Y, T, rfl⟩ := hI
    cases e
    replace T := T1 i x_2 T
    have Y : Sy _ _ _ [_, _, _, _] := Y
    refine cnd_imp T (fun T => ?_) (fun T => ?_)
    · obtain ⟨q_4, q_5, T⟩ := T
      obtain ⟨b_2, o_2, hb, hr, edges, hx⟩ := Y.atV 2 rfl q_4 q_5
      refine ⟨b_2, o_2, hb, q_4, q_5, ?_⟩
      replace T := T edges hx
      refine ⟨_, Y.cellV 2 rfl hb (t := 0) hx rfl, ?_⟩
      obtain ⟨q_6, q_7, T⟩ := T
      obtain ⟨b_3, hb_2, ho, x_3, hx_2⟩ := Y.atS 0 rfl q_6 q_7
      refine ⟨b_3, 0, hb_2, q_6, q_7, ?_⟩
      refine ⟨(Y.neJ 0 3 rfl rfl rfl ho), Y.cellEx 0 rfl hb_2 (t := 0) (by omega) (by decide), Y.freeS 0 rfl hb_2 _, ?_⟩
      intro hv4
      have Y : Sy _ _ hv4 [_, _, _, _] := Y.st1 0 rfl hb_2 true (by omega) rfl
      clear_value hv4
      exact loopBack hm ⟨_, _, rfl, Y.pick [0, 1, 2, 3] rfl, T.1, rfl⟩ T.2
    · obtain ⟨q_8, q_10, T⟩ := T
      refine ⟨q_8, Int.le_refl _, by omega, by omega, ?_⟩
      intro hv5
      have Y : Sy _ _ hv5 [_, _, _, _, _] := Y.mkR (ty := 40) eI 3 (Int.toNat g) (Int.toNat g) (Nat.le_refl _) (by simp [maxLen]; omega)
      clear_value hv5
      obtain ⟨Iv2, m2, T0, T1⟩ := T
      obtain ⟨B_2, hB_2, YB⟩ := Y.cut [4] [0, 1, 2, 3] rfl
      obtain ⟨F_2, hF_2⟩ := Y.fnR (k := 4) rfl
      obtain ⟨JJ_2, hJJ_2⟩ : ∃ JJ_2 : Nat → List Value → Heap → Prop, JJ_2 = (fun k_2 lz h' => ∃ (hv6 : Int) (x_4H : List RowH) (x_4 : List (List Int)), lz = [.int .i64 hv6] ∧ Sy h [] h' ([F_2 x_4H x_4] ++ B_2) ∧ Iv2 hv6 x_4 ∧ m2 hv6 x_4 = k_2) := ⟨_, rfl⟩
      refine ⟨fun lz h' => ∃ k_2, JJ_2 k_2 lz h', Lm JJ_2, ?_, ?_⟩
      · subst hJJ_2 hB_2 hF_2
        exact ⟨_, _, _, _, rfl, YB, T0, rfl⟩
      · clear YB T0 Y
        intro hv6 hv7 hI
        obtain ⟨k_2, hI, hm_2⟩ := loopIn hI
        subst hJJ_2 hB_2 hF_2
        obtain ⟨hv6, x_4H, x_4, e, Y, T, rfl⟩ := hI
        cases e
        replace T := T1 hv6 x_4 T
        have Y : Sy _ _ _ [_, _, _, _, _] := Y
        refine cnd_imp T (fun T => ?_) (fun T => ?_)
        · obtain ⟨q_24, T⟩ := T
          refine ⟨q_24, ?_⟩
          obtain ⟨q_11, q_12, T⟩ := T
          obtain ⟨b_4, hb_3, ho_2, x_5, hx_3⟩ := Y.atS 1 rfl q_11 q_12
          refine ⟨b_4, 0, hb_3, q_11, q_12, ?_⟩
          replace T := T x_5 hx_3
          refine ⟨_, Y.cellS 1 rfl hb_3 (t := 0) hx_3 rfl, ?_⟩
          obtain ⟨Jv, T0, T1⟩ := T
          obtain ⟨B_3, hB_3, _⟩ := Y.cut [] [1, 2, 3, 4] rfl
          obtain ⟨F_3, hF_3⟩ := Y.fnR (k := 0) rfl
          refine ⟨fun lz h' => ∃ (x_4_2H : List RowH) (x_4_2 : List (List Int)), lz = [] ∧ Sy h [] h' ([F_3 x_4_2H x_4_2] ++ B_3) ∧ Jv x_4_2, ?_, ?_⟩
          · subst hB_3 hF_3
            replace T := T0
            clear T0 T1
            refine cnd_imp T (fun T => ?_) (fun T => ?_)
            · obtain ⟨Jv_2, T0, T1⟩ := T
              obtain ⟨B_4, hB_4, _⟩ := Y.cut [] [1, 2, 3, 4] rfl
              obtain ⟨F_4, hF_4⟩ := Y.fnX (k := 0) rfl
              intro K
              have hK : ∀ (p : Nat) (x3 : Int) (xA4 : Option Addr) (xL4 xC4 : Nat) (hv19 : Heap), (∃ (x_6 : List Int) (xi : Nat) (x_4_3H : List RowH) (x_4_3 : List (List Int)), Sy h [] hv19 ([Ck.sl eI 3 xA4 xL4 xC4 x_6, Ck.junk p, F_4 xi x_4_3H x_4_3] ++ B_4) ∧ Jv_2 x3 x_6 xi x_4_3) → K p x3 xA4 xL4 xC4 hv19 := by
                subst hB_4 hF_4
                clear T0 Y
                rintro p x3 xA4 xL4 xC4 hv19 ⟨x_6, xi, x_4_3H, x_4_3, Y, T⟩
                obtain rfl := Y.lenS 0 rfl
                replace T := T1 x3 x_6 xi x_4_3 T
                have Y : Sy _ _ _ [_, _, _, _, _, _, _] := Y
                unfold K
                obtain ⟨q_13, q_14, T⟩ := T
                obtain ⟨b_5, hb_4, ho_3, x_7, hx_4, r_2, hr_2⟩ := Y.atR 2 rfl q_13 q_14
                refine ⟨b_5, 0, hb_4, q_13, q_14, ?_⟩
                obtain ⟨qe, T⟩ := T
                refine ⟨(Y.neJ 2 1 rfl rfl rfl (memR hb_4)), (Y.neJ 2 6 rfl rfl rfl (memR hb_4)), (Y.cellRX 2 rfl hb_4 (by omega)), Y.freeR 2 rfl hb_4 _, ?_⟩
                intro hv20
                have Y : Sy _ _ hv20 [_, _, _, _, _, _, _] := Y.putXe 2 0 rfl qe rfl hb_4 rfl (by omega)
                clear_value hv20
                exact ⟨_, _, rfl, Y.pick [2, 3, 4, 5, 6] rfl, T⟩
              subst hB_4 hF_4
              replace T := T0
              clear T0 T1
              have Y0 := Y
              obtain ⟨Mx, hMx⟩ := Y.mt [] [0]
              refine ⟨Mx, ?_⟩
              subst hMx
              refine ⟨(allc (Y0.nMJ 4 [] [0] rfl rfl) alln), ?_⟩
              have F : Fr _ hv7 hv7 := Y0.frM [] [0]
              refine ⟨?_, ?_⟩
              · refine callX_sy (T _ _ _ _ (Y.pick [2] rfl).hp) (fun _ _ ⟨_, p, _⟩ => p.fr) (allc (fun h => by cases h) alln) ?_
                rintro v hv8 ⟨r, PP, rfl, T⟩
                have F : Fr _ _ hv8 := F.trans PP.fr.nil
                have fshv8 := F.size
                have Y : Sy _ _ hv8 [_, _, _, _, _] := Y.gr PP.fr
                clear PP
                refine ⟨r, rfl, ?_⟩
                refine ⟨F, ?_⟩
                refine ⟨?_, ?_⟩
                · refine callX_sy (T _ _ _ _ (Y.pick [2] rfl).hp) (fun _ _ ⟨_, p, _⟩ => p.fr) (allc (fun h => by cases h) alln) ?_
                  rintro v2 hv9 ⟨r2, PP, rfl, T⟩
                  have F : Fr _ _ hv9 := F.trans PP.fr.nil
                  have fshv9 := F.size
                  have Y : Sy _ _ hv9 [_, _, _, _, _] := Y.gr PP.fr
                  clear PP
                  refine ⟨r2, rfl, ?_⟩
                  refine ⟨F, ?_⟩
                  obtain ⟨q_15, q_16, T⟩ := T
                  obtain ⟨b_6, hb_5, ho_4, x_8, hx_5, r_3, hr_3⟩ := Y0.atR 0 rfl q_15 q_16
                  refine ⟨b_6, 0, hb_5, q_15, q_16, ?_⟩
                  refine ⟨(Y0.nMr 0 [] [0] rfl rfl hb_5), ?_⟩
                  replace T := T x_8 hx_5
                  refine ⟨_, _, _, Y0.cellR 0 rfl hb_5 hr_3 hx_5, ?_⟩
                  intro hv10
                  have Y : Sy _ _ hv10 [_, _, _, _, _, _] := Y.junk _
                  have F : Fr _ _ hv10 := F.pushr _
                  have fshv10 := F.size
                  clear_value hv10
                  refine ⟨F, ?_⟩
                  have Y : Sy _ _ _ [_, _, _, _, _, _, _] := Y.takeR 0 rfl hr_3 hx_5
                  obtain ⟨q_17, T⟩ := T
                  refine ⟨_, Y.ownS 6 rfl, (allc (Y.nJ 6 5 rfl rfl rfl) (allc (Y.nJ 6 4 rfl rfl rfl) alln)), by first | exact appB q_17 (by decide) | omega, by first | exact appM q_17 | (simp [maxLen]; omega), ?_⟩
                  intro sA sC hv11 ow fA gA gB
                  have Y : Sy _ _ hv11 [_, _, _, _, _, _, _] := Y.appS 6 rfl ([hv6] : List Int) ow fA gA rfl rfl
                  have ns := F.appIn (Y0.inMr 0 [] [0] rfl rfl hr_3) gA fshv10
                  have F : Fr _ _ hv11 := F.comp fA (Y0.inMr 0 [] [0] rfl rfl hr_3)
                  have fshv11 := F.size
                  refine ⟨F, ?_⟩
                  exact hK _ _ _ _ _ _ ⟨_, _, _, _, Y.pick [6, 5, 0, 1, 2, 3, 4] rfl, T⟩
                · intro hv12
                  have Y : Sy _ _ hv12 [_, _, _, _, _, _] := Y.junk _
                  have F : Fr _ _ hv12 := F.pushr _
                  have fshv12 := F.size
                  clear_value hv12
                  refine ⟨F, ?_⟩
                  refine callX_sy (T _ _ _ _ (Y.pick [2] rfl).hp) (fun _ _ ⟨_, p, _⟩ => p.fr) (allc (fun h => by cases h) (allc (fun h => by cases h) alln)) ?_
                  rintro v3 hv13 ⟨r3, PP, rfl, T⟩
                  have F : Fr _ _ hv13 := F.trans PP.fr.nil
                  have fshv13 := F.size
                  have Y : Sy _ _ hv13 [_, _, _, _, _, _] := Y.gr PP.fr
                  clear PP
                  refine ⟨r3, rfl, ?_⟩
                  refine ⟨F, ?_⟩
                  obtain ⟨q_18, q_19, T⟩ := T
                  obtain ⟨b_7, hb_6, ho_5, x_9, hx_6, r_4, hr_4⟩ := Y0.atR 0 rfl q_18 q_19
                  refine ⟨b_7, 0, hb_6, q_18, q_19, ?_⟩
                  refine ⟨(Y0.nMr 0 [] [0] rfl rfl hb_6), ?_⟩
                  replace T := T x_9 hx_6
                  refine ⟨_, _, _, Y0.cellR 0 rfl hb_6 hr_4 hx_6, ?_⟩
                  have Y : Sy _ _ _ [_, _, _, _, _, _, _] := Y.takeR 0 rfl hr_4 hx_6
                  obtain ⟨q_20, T⟩ := T
                  refine ⟨_, Y.ownS 6 rfl, (allc (Y.nJ 6 5 rfl rfl rfl) (allc (Y.nJ 6 4 rfl rfl rfl) alln)), by first | exact appB q_20 (by decide) | omega, by first | exact appM q_20 | (simp [maxLen]; omega), ?_⟩
                  intro sA2 sC2 hv14 ow fA gA gB
                  have Y : Sy _ _ hv14 [_, _, _, _, _, _, _] := Y.appS 6 rfl ([hv6] : List Int) ow fA gA rfl rfl
                  have ns_2 := F.appIn (Y0.inMr 0 [] [0] rfl rfl hr_4) gA fshv13
                  have F : Fr _ _ hv14 := F.comp fA (Y0.inMr 0 [] [0] rfl rfl hr_4)
                  have fshv14 := F.size
                  refine ⟨F, ?_⟩
                  exact hK _ _ _ _ _ _ ⟨_, _, _, _, Y.pick [6, 5, 0, 1, 2, 3, 4] rfl, T⟩
              · intro hv15
                have Y : Sy _ _ hv15 [_, _, _, _, _, _] := Y.junk _
                have F : Fr _ _ hv15 := F.pushr _
                have fshv15 := F.size
                clear_value hv15
                refine ⟨F, ?_⟩
                refine callX_sy (T _ _ _ _ (Y.pick [2] rfl).hp) (fun _ _ ⟨_, p, _⟩ => p.fr) (allc (fun h => by cases h) (allc (fun h => by cases h) alln)) ?_
                rintro v4 hv16 ⟨r4, PP, rfl, T⟩
                have F : Fr _ _ hv16 := F.trans PP.fr.nil
                have fshv16 := F.size
                have Y : Sy _ _ hv16 [_, _, _, _, _, _] := Y.gr PP.fr
                clear PP
                refine ⟨r4, rfl, ?_⟩
                refine ⟨F, ?_⟩
                refine callX_sy (T _ _ _ _ (Y.pick [2] rfl).hp) (fun _ _ ⟨_, p, _⟩ => p.fr) (allc (fun h => by cases h) (allc (fun h => by cases h) alln)) ?_
                rintro v5 hv17 ⟨r5, PP, rfl, T⟩
                have F : Fr _ _ hv17 := F.trans PP.fr.nil
                have fshv17 := F.size
                have Y : Sy _ _ hv17 [_, _, _, _, _, _] := Y.gr PP.fr
                clear PP
                refine ⟨r5, rfl, ?_⟩
                refine ⟨F, ?_⟩
                obtain ⟨q_21, q_22, T⟩ := T
                obtain ⟨b_8, hb_7, ho_6, x_10, hx_7, r_5, hr_5⟩ := Y0.atR 0 rfl q_21 q_22
                refine ⟨b_8, 0, hb_7, q_21, q_22, ?_⟩
                refine ⟨(Y0.nMr 0 [] [0] rfl rfl hb_7), ?_⟩
                replace T := T x_10 hx_7
                refine ⟨_, _, _, Y0.cellR 0 rfl hb_7 hr_5 hx_7, ?_⟩
                have Y : Sy _ _ _ [_, _, _, _, _, _, _] := Y.takeR 0 rfl hr_5 hx_7
                obtain ⟨q_23, T⟩ := T
                refine ⟨_, Y.ownS 6 rfl, (allc (Y.nJ 6 5 rfl rfl rfl) (allc (Y.nJ 6 4 rfl rfl rfl) alln)), by first | exact appB q_23 (by decide) | omega, by first | exact appM q_23 | (simp [maxLen]; omega), ?_⟩
                intro sA3 sC3 hv18 ow fA gA gB
                have Y : Sy _ _ hv18 [_, _, _, _, _, _, _] := Y.appS 6 rfl ([hv6] : List Int) ow fA gA rfl rfl
                have ns_3 := F.appIn (Y0.inMr 0 [] [0] rfl rfl hr_5) gA fshv17
                have F : Fr _ _ hv18 := F.comp fA (Y0.inMr 0 [] [0] rfl rfl hr_5)
                have fshv18 := F.size
                refine ⟨F, ?_⟩
                exact hK _ _ _ _ _ _ ⟨_, _, _, _, Y.pick [6, 5, 0, 1, 2, 3, 4] rfl, T⟩
            · exact ⟨_, _, rfl, Y.pick [0, 1, 2, 3, 4] rfl, T⟩
          · subst hB_3 hF_3
            clear T0 Y
            rintro hv21 ⟨x_4_2H, x_4_2, e, Y, T⟩
            cases e
            replace T := T1 x_4_2 T
            have Y : Sy _ _ _ [_, _, _, _, _] := Y
            exact loopBack hm_2 ⟨_, _, _, rfl, Y.pick [0, 1, 2, 3, 4] rfl, T.1, rfl⟩ T.2
        · exact ⟨_, _, _, _, _, Y.pick [0] rfl, rfl, T⟩
/-- tracery/traceryref12.follow -/
def S154 (g : Int) (gA : Option Addr) (gL gC : Nat) (outA : Option Addr) (outL outC : Nat) (dA : Option Addr) (dL dC : Nat) (hv : Int) (h : Heap) (R : Value → Heap → Prop) : Prop :=
  let hv2 : Heap := h.push (.cells #[.int .i64 g, .slice gA gL gC] 26)
  let hv3 : Heap := hv2.push (.cells #[.int .i64 hv] 3)
  let K := fun (lA2 : Option Addr) (lL2 lC2 : Nat) (hv12 : Heap) =>
    (R (.slice lA2 lL2 lC2) hv12)
  ∃ (Iv : List Value → Heap → Prop) (m : List Value → Heap → Nat), Iv [.int .i64 hv, .slice (some (⟨hv2.size, 0, none⟩ : Addr)) 1 1] hv3 ∧ -- loop 0: ['h', 'l']
  ∀ hv4 : Int, ∀ (lA : Option Addr) (lL lC : Nat), ∀ hv5, Iv [.int .i64 hv4, .slice lA lL lC] hv5 →
  callX Try.prog 55 #[.agg #[.int .i64 g, .slice gA gL gC], .int .i64 hv4] hv5 [h.size] fun v hv6 =>
  ∃ r : Int, v = .int .i64 r ∧
  ∃ b o, dA = some ⟨b, o, none⟩ ∧ 0 ≤ r ∧ r < (dL : Nat) ∧ ∃ x : Int, hcell hv6 b (o + (Int.toNat r) * 1) = some (.int .i64 x) ∧ cnd (x == (2 : Int))
    (cnd (decide (((lL : Nat) : Int) ≤ ((gL : Nat) : Int)))
      (callX Try.prog 55 #[.agg #[.int .i64 g, .slice gA gL gC], .int .i64 hv4] hv6 [h.size] fun v2 hv7 =>
      ∃ r2 : Int, v2 = .int .i64 r2 ∧
      ∃ b2 o2, outA = some ⟨b2, o2, none⟩ ∧ 0 ≤ r2 ∧ r2 < (outL : Nat) ∧ ∃ (xA : Option Addr) (xL xC : Nat), hcell hv7 b2 (o2 + (Int.toNat r2) * 1) = some (.slice xA xL xC) ∧ ∃ b3 o3, xA = some ⟨b3, o3, none⟩ ∧ 0 ≤ (0 : Int) ∧ (0 : Int) < (xL : Nat) ∧ ∃ x2 : Int, hcell hv7 b3 (o3 + (Int.toNat (0 : Int)) * 1) = some (.int .i64 x2) ∧ callX Try.prog 205 #[.int .i64 hv4] hv7 [h.size] fun v3 hv8 =>
      ∃ r3 : Int, v3 = .int .i64 r3 ∧
      ∃ Jv : List Value → Heap → Prop, -- join 41 ['next']
      ( cnd (x2 == r3)
         (∃ b4 o4, outA = some ⟨b4, o4, none⟩ ∧ 0 ≤ r2 ∧ r2 < (outL : Nat) ∧ ∃ (xA2 : Option Addr) (xL2 xC2 : Nat), hcell hv8 b4 (o4 + (Int.toNat r2) * 1) = some (.slice xA2 xL2 xC2) ∧ ∃ b5 o5, xA2 = some ⟨b5, o5, none⟩ ∧ 0 ≤ (1 : Int) ∧ (1 : Int) < (xL2 : Nat) ∧ ∃ x3 : Int, hcell hv8 b5 (o5 + (Int.toNat (1 : Int)) * 1) = some (.int .i64 x3) ∧ Jv [.int .i64 x3] hv8)
         (Jv [.int .i64 x2] hv8)) ∧
      ∀ nextv : Int, ∀ hv9, Jv [.int .i64 nextv] hv9 →
      let hv10 : Heap := hv9.push (.cells #[.int .i64 nextv] 3)
      ∃ old, Ownd hv10 3 1 lA lL lC old ∧ (∀ b ∈ ([hv9.size, h.size] : List Nat), b ∉ blkOf lA) ∧ (lL + 1) * 8 ≤ 140737488355328 ∧ (lL + 1) ≤ maxLen ∧
      ∀ sA sC hv11, Ownd hv11 3 1 sA (lL + 1) sC (old ++ [.int .i64 nextv]) → Fr (blkOf lA) hv10 hv11 → ((sA = lA ∧ sC = lC) ∨ ∃ g, sA = some ⟨g, 0, none⟩ ∧ hv10.size ≤ g) → (lC < (lL + 1) → Fr [] hv10 hv11) →
      Iv [.int .i64 nextv, .slice sA (lL + 1) sC] hv11 ∧ m [.int .i64 nextv, .slice sA (lL + 1) sC] hv11 < m [.int .i64 hv4, .slice lA lL lC] hv5)
      (K lA lL lC hv6))
    (K lA lL lC hv6)
theorem calls154 {h : Heap} {R : Value → Heap → Prop} (g : Int) (gA : Option Addr) (gL gC : Nat) (outA : Option Addr) (outL outC : Nat) (dA : Option Addr) (dL dC : Nat) (hv : Int) (H : S154 g gA gL gC outA outL outC dA dL dC hv h R) : CallsH Try.prog 154 #[.agg #[.int .i64 g, .slice gA gL gC], .slice outA outL outC, .slice dA dL dC, .int .i64 hv] h R := by
  have e : S154 g gA gL gC outA outL outC dA dL dC hv h R = FX (envX [4, 51] 54) { loops := [(0, ⟨[1, 2, 4], [3, 9], [4], []⟩)], joins := [(41, ⟨[1, 2, 4, 9], [11], [4], []⟩)], blocks := [], draws := [] } Try.f154 (Try.f154.body.getD .skip) [.agg #[.int .i64 g, .slice gA gL gC], .slice outA outL outC, .slice dA dL dC, .int .i64 hv] h R := by kernel_rfl
  exact calls_of_FX (envX_ok _ _) Try.func154 (by kernel_rfl) (by kernel_rfl) (by kernel_rfl) (e ▸ H)
/-- tracery/traceryref12.follow -/
def Ok154 (g : Int) (edgesV : List (Int × Int)) (outV : List (List Int)) (dV : List Int) (hv : Int) (R : List Int → Prop) : Prop :=
  ∀ (h : Heap) (gA : Option Addr) (gL gC : Nat) (outA : Option Addr) (outL outC : Nat) (outH : List RowH) (dA : Option Addr) (dL dC : Nat), Hp h [Ck.vw eP gA gL gC edgesV, Ck.vrows eI outA outL outC outH outV, Ck.vw eI dA dL dC dV] → CallsH Try.prog 154 #[.agg #[.int .i64 g, .slice gA gL gC], .slice outA outL outC, .slice dA dL dC, .int .i64 hv] h fun v h' => ∃ (rVA : Option Addr) (rVL rVC : Nat) (rV : List Int), Sy h [] h' [Ck.sl eI 3 rVA rVL rVC rV] ∧ v = .slice rVA rVL rVC ∧ R rV
theorem Ok154.mono {g edgesV outV dV hv} {R R' : List Int → Prop} (H : Ok154 g edgesV outV dV hv R) (kz : ∀ rV, R rV → R' rV) : Ok154 g edgesV outV dV hv R' :=
  fun h gA gL gC outA outL outC outH dA dL dC hp => (H h gA gL gC outA outL outC outH dA dL dC hp).mono fun _ _ ⟨rVA, rVL, rVC, rV, P, e, q⟩ => ⟨rVA, rVL, rVC, rV, P, e, kz _ q⟩
def T154 (g : Int) (edgesV : List (Int × Int)) (outV : List (List Int)) (dV : List Int) (hv : Int) (R : List Int → Prop) : Prop :=
  ∃ Jv_2 : List Int → Prop,
  ( ∃ (Iv : Int → List Int → Prop) (m : Int → List Int → Nat), Iv hv ([hv] : List Int) ∧
   ∀ hv4 : Int, ∀ l_2 : List Int, Iv hv4 l_2 →
   Ok55 g edgesV hv4 (fun r =>
   0 ≤ r ∧ r < ((dV.length : Nat) : Int) ∧ ∀ d : Int, dV[(Int.toNat r)]? = some d → cnd (d == (2 : Int))
     (cnd (decide (((l_2.length : Nat) : Int) ≤ ((edgesV.length : Nat) : Int)))
       (Ok55 g edgesV hv4 (fun r2 =>
       0 ≤ r2 ∧ r2 < ((outV.length : Nat) : Int) ∧ ∀ outv : List Int, outV[(Int.toNat r2)]? = some outv → 0 ≤ (0 : Int) ∧ (0 : Int) < ((outv.length : Nat) : Int) ∧ ∀ x_2 : Int, outv[(Int.toNat (0 : Int))]? = some x_2 → Ok205 hv4 (fun r3 =>
       ∃ Jv : Int → Prop,
       ( cnd (x_2 == r3)
          (0 ≤ (1 : Int) ∧ (1 : Int) < ((outv.length : Nat) : Int) ∧ ∀ x_3 : Int, outv[(Int.toNat (1 : Int))]? = some x_3 → Jv x_3)
          (Jv x_2)) ∧
       ∀ nextv : Int, Jv nextv →
       (l_2.length + 1) < 1000000000000 ∧ Iv nextv (l_2 ++ [nextv]) ∧ m nextv (l_2 ++ [nextv]) < m hv4 l_2)))
       (Jv_2 l_2))
     (Jv_2 l_2))) ∧
  ∀ l : List Int, Jv_2 l →
  R l
theorem ok154 {g edgesV outV dV hv} {R : List Int → Prop} (T : T154 g edgesV outV dV hv R) : Ok154 g edgesV outV dV hv R := by
  intro h gA gL gC outA outL outC outH dA dL dC H
  have Y : Sy h [] h _ := Sy.startM H rfl
  obtain rfl := Y.lenV 0 rfl
  obtain rfl := Y.lenW 1 rfl
  obtain rfl := Y.lenV 2 rfl
  apply calls154
  unfold S154
  unfold T154 at T
  intro hv2
  have Y : Sy _ _ hv2 [_, _, _, _] := Y.junk _
  clear_value hv2
  intro hv3
  have Y : Sy _ _ hv3 [_, _, _, _, _] := Y.litS (E := eI) (ty := 3) ([hv] : List Int) rfl (by simp [maxLen])
  clear_value hv3
  obtain ⟨Jv_2, T0, T1⟩ := T
  obtain ⟨B, hB, _⟩ := Y.cut [] [0, 1, 2, 3] rfl
  intro K
  have hK : ∀ (lA2 : Option Addr) (lL2 lC2 : Nat) (hv12 : Heap), (∃ (l : List Int), Sy h [] hv12 ([Ck.sl eI 3 lA2 lL2 lC2 l] ++ B) ∧ Jv_2 l) → K lA2 lL2 lC2 hv12 := by
    subst hB
    clear T0 Y
    rintro lA2 lL2 lC2 hv12 ⟨l, Y, T⟩
    obtain rfl := Y.lenS 0 rfl
    replace T := T1 l T
    have Y : Sy _ _ _ [_, _, _, _, _] := Y
    unfold K
    exact ⟨_, _, _, _, Y.pick [0] rfl, rfl, T⟩
  subst hB
  replace T := T0
  clear T0 T1
  obtain ⟨Iv, m, T0, T1⟩ := T
  obtain ⟨B_2, hB_2, YB⟩ := Y.cut [4] [0, 1, 2, 3] rfl
  obtain ⟨JJ, hJJ⟩ : ∃ JJ : Nat → List Value → Heap → Prop, JJ = (fun k lz h' => ∃ (hv4 : Int) (lA : Option Addr) (lL lC : Nat) (l_2 : List Int), lz = [.int .i64 hv4, .slice lA lL lC] ∧ Sy h [] h' ([Ck.sl eI 3 lA lL lC l_2] ++ B_2) ∧ Iv hv4 l_2 ∧ m hv4 l_2 = k) := ⟨_, rfl⟩
  refine ⟨fun lz h' => ∃ k, JJ k lz h', Lm JJ, ?_, ?_⟩
  · subst hJJ hB_2
    exact ⟨_, _, _, _, _, _, rfl, YB, T0, rfl⟩
  · clear YB T0 Y
    intro hv4 lA lL lC hv5 hI
    obtain ⟨k, hI, hm⟩ := loopIn hI
    subst hJJ hB_2
    obtain ⟨hv4, lA, lL, lC, l_2, e, Y, T, rfl⟩ := hI
    cases e
    obtain rfl := Y.lenS 0 rfl
    replace T := T1 hv4 l_2 T
    have Y : Sy _ _ _ [_, _, _, _, _] := Y
    refine callX_sy (T _ _ _ _ (Y.pick [1] rfl).hp) (fun _ _ ⟨_, p, _⟩ => p.fr) (allc (fun h => by cases h) alln) ?_
    rintro v hv6 ⟨r, PP, rfl, T⟩
    have Y : Sy _ _ hv6 [_, _, _, _, _] := Y.gr PP.fr
    clear PP
    refine ⟨r, rfl, ?_⟩
    obtain ⟨q, q_2, T⟩ := T
    obtain ⟨b_2, o_2, hb, hr, d, hx⟩ := Y.atV 3 rfl q q_2
    refine ⟨b_2, o_2, hb, q, q_2, ?_⟩
    replace T := T d hx
    refine ⟨_, Y.cellV 3 rfl hb (t := 0) hx rfl, ?_⟩
    refine cnd_imp T (fun T => ?_) (fun T => ?_)
    · refine cnd_imp T (fun T => ?_) (fun T => ?_)
      · refine callX_sy (T _ _ _ _ (Y.pick [1] rfl).hp) (fun _ _ ⟨_, p, _⟩ => p.fr) (allc (fun h => by cases h) alln) ?_
        rintro v2 hv7 ⟨r2, PP, rfl, T⟩
        have Y : Sy _ _ hv7 [_, _, _, _, _] := Y.gr PP.fr
        clear PP
        refine ⟨r2, rfl, ?_⟩
        obtain ⟨q_3, q_4, T⟩ := T
        obtain ⟨b_3, o_3, hb_2, hr_3, outv, hx_2, r_2, hr_2⟩ := Y.atW 2 rfl q_3 q_4
        refine ⟨b_3, o_3, hb_2, q_3, q_4, ?_⟩
        replace T := T outv hx_2
        refine ⟨_, _, _, Y.cellWR 2 rfl hb_2 hr_2 hx_2, ?_⟩
        obtain ⟨q_5, q_6, T⟩ := T
        obtain ⟨b_4, o_4, hb_3, hr_4, x_2, hx_3⟩ := Y.atRowW 2 rfl hr_2 hx_2 q_5 q_6
        refine ⟨b_4, o_4, hb_3, q_5, q_6, ?_⟩
        replace T := T x_2 hx_3
        refine ⟨_, Y.cellRowW 2 rfl hr_2 hx_2 hb_3 (t := 0) hx_3 rfl, ?_⟩
        refine callX_sy (T _ (Hp.nil _)) (fun _ _ ⟨_, p, _⟩ => p.fr) (allc (fun h => by cases h) alln) ?_
        rintro v3 hv8 ⟨r3, PP, rfl, T⟩
        have Y : Sy _ _ hv8 [_, _, _, _, _] := Y.gr PP.fr
        clear PP
        refine ⟨r3, rfl, ?_⟩
        obtain ⟨Jv, T0, T1⟩ := T
        obtain ⟨B_3, hB_3, _⟩ := Y.cut [] [0, 1, 2, 3, 4] rfl
        refine ⟨fun lz h' => ∃ (nextv : Int), lz = [.int .i64 nextv] ∧ Sy h [] h' ([] ++ B_3) ∧ Jv nextv, ?_, ?_⟩
        · subst hB_3
          replace T := T0
          clear T0 T1
          refine cnd_imp T (fun T => ?_) (fun T => ?_)
          · refine ⟨b_3, o_3, hb_2, q_3, q_4, ?_⟩
            refine ⟨_, _, _, Y.cellWR 2 rfl hb_2 hr_2 hx_2, ?_⟩
            obtain ⟨q_7, q_8, T⟩ := T
            obtain ⟨b_5, o_5, hb_4, hr_5, x_3, hx_4⟩ := Y.atRowW 2 rfl hr_2 hx_2 q_7 q_8
            refine ⟨b_5, o_5, hb_4, q_7, q_8, ?_⟩
            replace T := T x_3 hx_4
            refine ⟨_, Y.cellRowW 2 rfl hr_2 hx_2 hb_4 (t := 0) hx_4 rfl, ?_⟩
            exact ⟨_, rfl, Y.pick [0, 1, 2, 3, 4] rfl, T⟩
          · exact ⟨_, rfl, Y.pick [0, 1, 2, 3, 4] rfl, T⟩
        · subst hB_3
          clear T0 Y
          rintro nextv hv9 ⟨nextv, e, Y, T⟩
          cases e
          replace T := T1 nextv T
          have Y : Sy _ _ _ [_, _, _, _, _] := Y
          intro hv10
          have Y : Sy _ _ hv10 [_, _, _, _, _, _] := Y.junk _
          clear_value hv10
          obtain ⟨q_9, T⟩ := T
          refine ⟨_, Y.ownS 0 rfl, (allc (Y.nJ 0 5 rfl rfl rfl) (allc (Y.nJ 0 4 rfl rfl rfl) alln)), by first | exact appB q_9 (by decide) | omega, by first | exact appM q_9 | (simp [maxLen]; omega), ?_⟩
          intro sA sC hv11 ow fA gA gB
          have Y : Sy _ _ hv11 [_, _, _, _, _, _] := Y.appS 0 rfl ([nextv] : List Int) ow fA gA rfl rfl
          exact loopBack hm ⟨_, _, _, _, _, rfl, Y.pick [0, 1, 2, 3, 4] rfl, T.1, rfl⟩ T.2
      · exact hK _ _ _ _ ⟨_, Y.pick [0, 1, 2, 3, 4] rfl, T⟩
    · exact hK _ _ _ _ ⟨_, Y.pick [0, 1, 2, 3, 4] rfl, T⟩
/-- tracery/traceryref12.May -/
def S60 (g : Int) (gA : Option Addr) (gL gC : Nat) (edgesA : Option Addr) (edgesL edgesC : Nat) (h : Heap) (R : Value → Heap → Prop) : Prop :=
  let hv : Heap := h.push (.cells #[.int .i64 g, .slice gA gL gC] 26)
  callX Try.prog 43 #[.agg #[.int .i64 g, .slice gA gL gC]] hv [h.size] fun v hv2 =>
  ∃ r : Bool, v = .bool r ∧
  cnd (!r)
    (R (.int .i64 1) hv2)
    (callX Try.prog 150 #[.slice edgesA edgesL edgesC, .int .i64 ((gL : Nat) : Int)] hv2 [h.size] fun v2 hv3 =>
    ∃ r2 : Int, v2 = .int .i64 r2 ∧
    R (.int .i64 r2) hv3)
theorem calls60 {h : Heap} {R : Value → Heap → Prop} (g : Int) (gA : Option Addr) (gL gC : Nat) (edgesA : Option Addr) (edgesL edgesC : Nat) (H : S60 g gA gL gC edgesA edgesL edgesC h R) : CallsH Try.prog 60 #[.agg #[.int .i64 g, .slice gA gL gC], .slice edgesA edgesL edgesC] h R := by
  have e : S60 g gA gL gC edgesA edgesL edgesC h R = FX (envX [2] 13) { loops := [], joins := [], blocks := [], draws := [] } Try.f60 (Try.f60.body.getD .skip) [.agg #[.int .i64 g, .slice gA gL gC], .slice edgesA edgesL edgesC] h R := by kernel_rfl
  exact calls_of_FX (envX_ok _ _) Try.func60 (by kernel_rfl) (by kernel_rfl) (by kernel_rfl) (e ▸ H)
/-- tracery/traceryref12.May -/
def Ok60 (g : Int) (edgesV : List (Int × Int)) (edgesV2 : List Int) (R : Int → Prop) : Prop :=
  ∀ (h : Heap) (gA : Option Addr) (gL gC : Nat) (edgesA : Option Addr) (edgesL edgesC : Nat), Hp h [Ck.vw eP gA gL gC edgesV, Ck.vw eI edgesA edgesL edgesC edgesV2] → CallsH Try.prog 60 #[.agg #[.int .i64 g, .slice gA gL gC], .slice edgesA edgesL edgesC] h fun v h' => ∃ (rV : Int), Sy h [] h' [] ∧ v = .int .i64 rV ∧ R rV
theorem Ok60.mono {g edgesV edgesV2} {R R' : Int → Prop} (H : Ok60 g edgesV edgesV2 R) (kz : ∀ rV, R rV → R' rV) : Ok60 g edgesV edgesV2 R' :=
  fun h gA gL gC edgesA edgesL edgesC hp => (H h gA gL gC edgesA edgesL edgesC hp).mono fun _ _ ⟨rV, P, e, q⟩ => ⟨rV, P, e, kz _ q⟩
def T60 (g : Int) (edgesV : List (Int × Int)) (edgesV2 : List Int) (R : Int → Prop) : Prop :=
  Ok43 g edgesV (fun r =>
  cnd (!r)
    (R 1)
    (Ok150 edgesV2 ((edgesV.length : Nat) : Int) (fun r2 =>
    R r2)))
theorem ok60 {g edgesV edgesV2} {R : Int → Prop} (T : T60 g edgesV edgesV2 R) : Ok60 g edgesV edgesV2 R := by
  intro h gA gL gC edgesA edgesL edgesC H
  have Y : Sy h [] h _ := Sy.startM H rfl
  obtain rfl := Y.lenV 0 rfl
  obtain rfl := Y.lenV 1 rfl
  apply calls60
  unfold S60
  unfold T60 at T
  intro hv
  have Y : Sy _ _ hv [_, _, _] := Y.junk _
  clear_value hv
  refine callX_sy (T _ _ _ _ (Y.pick [0] rfl).hp) (fun _ _ ⟨_, p, _⟩ => p.fr) (allc (fun h => by cases h) alln) ?_
  rintro v hv2 ⟨r, PP, rfl, T⟩
  have Y : Sy _ _ hv2 [_, _, _] := Y.gr PP.fr
  clear PP
  refine ⟨r, rfl, ?_⟩
  refine cnd_imp T (fun T => ?_) (fun T => ?_)
  · exact ⟨_, Y.pick [] rfl, rfl, T⟩
  · refine callX_sy (T _ _ _ _ (Y.pick [1] rfl).hp) (fun _ _ ⟨_, p, _⟩ => p.fr) (allc (fun h => by cases h) alln) ?_
    rintro v2 hv3 ⟨r2, PP, rfl, T⟩
    have Y : Sy _ _ hv3 [_, _, _] := Y.gr PP.fr
    clear PP
    refine ⟨r2, rfl, ?_⟩
    exact ⟨_, Y.pick [] rfl, rfl, T⟩
/-- tracery/traceryref12.sides -/
def S155 (nodesA : Option Addr) (nodesL nodesC : Nat) (wayA : Option Addr) (wayL wayC : Nat) (h : Heap) (R : Value → Heap → Prop) : Prop :=
  ∃ (Iv : List Value → Heap → Prop) (m : List Value → Heap → Nat), Iv [.slice none 0 0, .slice none 0 0, .int .i64 0] h ∧ -- loop 0: ['one', 'two', 'i']
  ∀ (oneA : Option Addr) (oneL oneC : Nat), ∀ (twoA : Option Addr) (twoL twoC : Nat), ∀ i : Int, ∀ hv, Iv [.slice oneA oneL oneC, .slice twoA twoL twoC, .int .i64 i] hv →
  cnd (decide (i < (6 : Int)))
    (cnd (i == (0 : Int))
      (let hv2 : Heap := hv.push (.cells #[.int .i64 i] 3)
      ∃ old, Ownd hv2 3 1 oneA oneL oneC old ∧ (∀ b ∈ ([hv.size] : List Nat), b ∉ blkOf oneA) ∧ (oneL + 1) * 8 ≤ 140737488355328 ∧ (oneL + 1) ≤ maxLen ∧
      ∀ sA sC hv3, Ownd hv3 3 1 sA (oneL + 1) sC (old ++ [.int .i64 i]) → Fr (blkOf oneA) hv2 hv3 → ((sA = oneA ∧ sC = oneC) ∨ ∃ g, sA = some ⟨g, 0, none⟩ ∧ hv2.size ≤ g) → (oneC < (oneL + 1) → Fr [] hv2 hv3) →
      Iv [.slice sA (oneL + 1) sC, .slice twoA twoL twoC, .int .i64 (IntKind.i64.wrap (i + (1 : Int)))] hv3 ∧ m [.slice sA (oneL + 1) sC, .slice twoA twoL twoC, .int .i64 (IntKind.i64.wrap (i + (1 : Int)))] hv3 < m [.slice oneA oneL oneC, .slice twoA twoL twoC, .int .i64 i] hv)
      (∃ b o, wayA = some ⟨b, o, none⟩ ∧ 0 ≤ (0 : Int) ∧ (0 : Int) < (wayL : Nat) ∧ ∃ (xA : Option Addr) (xL xC : Nat), hcell hv b (o + (Int.toNat (0 : Int)) * 1) = some (.slice xA xL xC) ∧ ∃ b2 o2, xA = some ⟨b2, o2, none⟩ ∧ 0 ≤ i ∧ i < (xL : Nat) ∧ ∃ (xA2 : Option Addr) (xL2 xC2 : Nat), hcell hv b2 (o2 + (Int.toNat i) * 1) = some (.slice xA2 xL2 xC2) ∧ ∃ Jv : List Value → Heap → Prop, -- join 30 ['one', 'two']
      ( cnd (Option.isNone xA2)
         (let hv4 : Heap := hv.push (.cells #[.int .i64 i] 3)
         ∃ old2, Ownd hv4 3 1 oneA oneL oneC old2 ∧ (∀ b ∈ ([hv.size] : List Nat), b ∉ blkOf oneA) ∧ (oneL + 1) * 8 ≤ 140737488355328 ∧ (oneL + 1) ≤ maxLen ∧
         ∀ sA2 sC2 hv5, Ownd hv5 3 1 sA2 (oneL + 1) sC2 (old2 ++ [.int .i64 i]) → Fr (blkOf oneA) hv4 hv5 → ((sA2 = oneA ∧ sC2 = oneC) ∨ ∃ g, sA2 = some ⟨g, 0, none⟩ ∧ hv4.size ≤ g) → (oneC < (oneL + 1) → Fr [] hv4 hv5) →
         Jv [.slice sA2 (oneL + 1) sC2, .slice twoA twoL twoC] hv5)
         (let hv6 : Heap := hv.push (.cells #[.int .i64 i] 3)
         ∃ old3, Ownd hv6 3 1 twoA twoL twoC old3 ∧ (∀ b ∈ ([hv.size] : List Nat), b ∉ blkOf twoA) ∧ (twoL + 1) * 8 ≤ 140737488355328 ∧ (twoL + 1) ≤ maxLen ∧
         ∀ sA3 sC3 hv7, Ownd hv7 3 1 sA3 (twoL + 1) sC3 (old3 ++ [.int .i64 i]) → Fr (blkOf twoA) hv6 hv7 → ((sA3 = twoA ∧ sC3 = twoC) ∨ ∃ g, sA3 = some ⟨g, 0, none⟩ ∧ hv6.size ≤ g) → (twoC < (twoL + 1) → Fr [] hv6 hv7) →
         Jv [.slice oneA oneL oneC, .slice sA3 (twoL + 1) sC3] hv7)) ∧
      ∀ (oneA2 : Option Addr) (oneL2 oneC2 : Nat), ∀ (twoA2 : Option Addr) (twoL2 twoC2 : Nat), ∀ hv8, Jv [.slice oneA2 oneL2 oneC2, .slice twoA2 twoL2 twoC2] hv8 →
      Iv [.slice oneA2 oneL2 oneC2, .slice twoA2 twoL2 twoC2, .int .i64 (IntKind.i64.wrap (i + (1 : Int)))] hv8 ∧ m [.slice oneA2 oneL2 oneC2, .slice twoA2 twoL2 twoC2, .int .i64 (IntKind.i64.wrap (i + (1 : Int)))] hv8 < m [.slice oneA oneL oneC, .slice twoA twoL twoC, .int .i64 i] hv))
    (cnd (((oneL : Nat) : Int) != (3 : Int))
      (R (.tuple #[.int .i64 0, .slice none 0 0, .slice none 0 0]) hv)
      (∃ (Iv2 : List Value → Heap → Prop) (m2 : List Value → Heap → Nat), Iv2 [.slice none 0 0, .int .i64 0] hv ∧ -- loop 2: ['paths', 'i']
      ∀ (pathsA : Option Addr) (pathsL pathsC : Nat), ∀ i2 : Int, ∀ hv9, Iv2 [.slice pathsA pathsL pathsC, .int .i64 i2] hv9 →
      cnd (decide (i2 < (3 : Int)))
        (∃ (Iv3 : List Value → Heap → Prop) (m3 : List Value → Heap → Nat), Iv3 [.slice pathsA pathsL pathsC, .int .i64 0] hv9 ∧ -- loop 4: ['paths', 'k']
        ∀ (pathsA2 : Option Addr) (pathsL2 pathsC2 : Nat), ∀ k : Int, ∀ hv10, Iv3 [.slice pathsA2 pathsL2 pathsC2, .int .i64 k] hv10 →
        cnd (decide (k < (3 : Int)))
          (∃ b3 o3, oneA = some ⟨b3, o3, none⟩ ∧ 0 ≤ i2 ∧ i2 < (oneL : Nat) ∧ ∃ x : Int, hcell hv10 b3 (o3 + (Int.toNat i2) * 1) = some (.int .i64 x) ∧ ∃ b4 o4, wayA = some ⟨b4, o4, none⟩ ∧ 0 ≤ x ∧ x < (wayL : Nat) ∧ ∃ (xA3 : Option Addr) (xL3 xC3 : Nat), hcell hv10 b4 (o4 + (Int.toNat x) * 1) = some (.slice xA3 xL3 xC3) ∧ ∃ b5 o5, twoA = some ⟨b5, o5, none⟩ ∧ 0 ≤ k ∧ k < (twoL : Nat) ∧ ∃ x2 : Int, hcell hv10 b5 (o5 + (Int.toNat k) * 1) = some (.int .i64 x2) ∧ ∃ b6 o6, xA3 = some ⟨b6, o6, none⟩ ∧ 0 ≤ x2 ∧ x2 < (xL3 : Nat) ∧ ∃ (xA4 : Option Addr) (xL4 xC4 : Nat), hcell hv10 b6 (o6 + (Int.toNat x2) * 1) = some (.slice xA4 xL4 xC4) ∧ cnd (Option.isNone xA4)
            (R (.tuple #[.int .i64 0, .slice none 0 0, .slice none 0 0]) hv10)
            (∃ Mv : List Nat, (∀ b ∈ ([] : List Nat), b ∉ Mv) ∧
            ∃ b7 o7, oneA = some ⟨b7, o7, none⟩ ∧ 0 ≤ i2 ∧ i2 < (oneL : Nat) ∧ b7 ∉ Mv ∧ ∃ x3 : Int, hcell hv10 b7 (o7 + (Int.toNat i2) * 1) = some (.int .i64 x3) ∧ ∃ b8 o8, wayA = some ⟨b8, o8, none⟩ ∧ 0 ≤ x3 ∧ x3 < (wayL : Nat) ∧ b8 ∉ Mv ∧ ∃ (xA5 : Option Addr) (xL5 xC5 : Nat), hcell hv10 b8 (o8 + (Int.toNat x3) * 1) = some (.slice xA5 xL5 xC5) ∧ ∃ b9 o9, twoA = some ⟨b9, o9, none⟩ ∧ 0 ≤ k ∧ k < (twoL : Nat) ∧ b9 ∉ Mv ∧ ∃ x4 : Int, hcell hv10 b9 (o9 + (Int.toNat k) * 1) = some (.int .i64 x4) ∧ ∃ b10 o10, xA5 = some ⟨b10, o10, none⟩ ∧ 0 ≤ x4 ∧ x4 < (xL5 : Nat) ∧ b10 ∉ Mv ∧ ∃ (xA6 : Option Addr) (xL6 xC6 : Nat), hcell hv10 b10 (o10 + (Int.toNat x4) * 1) = some (.slice xA6 xL6 xC6) ∧ let hv11 : Heap := hv10.push (.cells #[.slice xA6 xL6 xC6] 40)
            Fr Mv hv10 hv11 ∧
            ∃ old4, Ownd hv11 40 1 pathsA2 pathsL2 pathsC2 old4 ∧ (∀ b ∈ ([hv10.size] : List Nat), b ∉ blkOf pathsA2) ∧ (pathsL2 + 1) * 24 ≤ 140737488355328 ∧ (pathsL2 + 1) ≤ maxLen ∧
            ∀ sA4 sC4 hv12, Ownd hv12 40 1 sA4 (pathsL2 + 1) sC4 (old4 ++ [.slice xA6 xL6 xC6]) → Fr (blkOf pathsA2) hv11 hv12 → ((sA4 = pathsA2 ∧ sC4 = pathsC2) ∨ ∃ g, sA4 = some ⟨g, 0, none⟩ ∧ hv11.size ≤ g) → (pathsC2 < (pathsL2 + 1) → Fr [] hv11 hv12) →
            Fr Mv hv10 hv12 ∧
            Iv3 [.slice sA4 (pathsL2 + 1) sC4, .int .i64 (IntKind.i64.wrap (k + (1 : Int)))] hv12 ∧ m3 [.slice sA4 (pathsL2 + 1) sC4, .int .i64 (IntKind.i64.wrap (k + (1 : Int)))] hv12 < m3 [.slice pathsA2 pathsL2 pathsC2, .int .i64 k] hv10))
          (Iv2 [.slice pathsA2 pathsL2 pathsC2, .int .i64 (IntKind.i64.wrap (i2 + (1 : Int)))] hv10 ∧ m2 [.slice pathsA2 pathsL2 pathsC2, .int .i64 (IntKind.i64.wrap (i2 + (1 : Int)))] hv10 < m2 [.slice pathsA pathsL pathsC, .int .i64 i2] hv9))
        (∃ (Iv4 : List Value → Heap → Prop) (m4 : List Value → Heap → Nat), Iv4 [.slice none 0 0, .int .i64 0] hv9 ∧ -- loop 6: ['l', 'i']
        ∀ (lA : Option Addr) (lL lC : Nat), ∀ i3 : Int, ∀ hv13, Iv4 [.slice lA lL lC, .int .i64 i3] hv13 →
        cnd (decide (i3 < (3 : Int)))
          (∃ b11 o11, oneA = some ⟨b11, o11, none⟩ ∧ 0 ≤ i3 ∧ i3 < (oneL : Nat) ∧ ∃ x5 : Int, hcell hv13 b11 (o11 + (Int.toNat i3) * 1) = some (.int .i64 x5) ∧ ∃ b12 o12, nodesA = some ⟨b12, o12, none⟩ ∧ 0 ≤ x5 ∧ x5 < (nodesL : Nat) ∧ ∃ x6 : Int, hcell hv13 b12 (o12 + (Int.toNat x5) * 1) = some (.int .i64 x6) ∧ let hv14 : Heap := hv13.push (.cells #[.int .i64 x6] 3)
          ∃ old5, Ownd hv14 3 1 lA lL lC old5 ∧ (∀ b ∈ ([hv13.size] : List Nat), b ∉ blkOf lA) ∧ (lL + 1) * 8 ≤ 140737488355328 ∧ (lL + 1) ≤ maxLen ∧
          ∀ sA5 sC5 hv15, Ownd hv15 3 1 sA5 (lL + 1) sC5 (old5 ++ [.int .i64 x6]) → Fr (blkOf lA) hv14 hv15 → ((sA5 = lA ∧ sC5 = lC) ∨ ∃ g, sA5 = some ⟨g, 0, none⟩ ∧ hv14.size ≤ g) → (lC < (lL + 1) → Fr [] hv14 hv15) →
          Iv4 [.slice sA5 (lL + 1) sC5, .int .i64 (IntKind.i64.wrap (i3 + (1 : Int)))] hv15 ∧ m4 [.slice sA5 (lL + 1) sC5, .int .i64 (IntKind.i64.wrap (i3 + (1 : Int)))] hv15 < m4 [.slice lA lL lC, .int .i64 i3] hv13)
          (∃ (Iv5 : List Value → Heap → Prop) (m5 : List Value → Heap → Nat), Iv5 [.slice lA lL lC, .int .i64 0] hv13 ∧ -- loop 8: ['l', 'i']
          ∀ (lA2 : Option Addr) (lL2 lC2 : Nat), ∀ i4 : Int, ∀ hv16, Iv5 [.slice lA2 lL2 lC2, .int .i64 i4] hv16 →
          cnd (decide (i4 < (3 : Int)))
            (∃ b13 o13, twoA = some ⟨b13, o13, none⟩ ∧ 0 ≤ i4 ∧ i4 < (twoL : Nat) ∧ ∃ x7 : Int, hcell hv16 b13 (o13 + (Int.toNat i4) * 1) = some (.int .i64 x7) ∧ ∃ b14 o14, nodesA = some ⟨b14, o14, none⟩ ∧ 0 ≤ x7 ∧ x7 < (nodesL : Nat) ∧ ∃ x8 : Int, hcell hv16 b14 (o14 + (Int.toNat x7) * 1) = some (.int .i64 x8) ∧ let hv17 : Heap := hv16.push (.cells #[.int .i64 x8] 3)
            ∃ old6, Ownd hv17 3 1 lA2 lL2 lC2 old6 ∧ (∀ b ∈ ([hv16.size] : List Nat), b ∉ blkOf lA2) ∧ (lL2 + 1) * 8 ≤ 140737488355328 ∧ (lL2 + 1) ≤ maxLen ∧
            ∀ sA6 sC6 hv18, Ownd hv18 3 1 sA6 (lL2 + 1) sC6 (old6 ++ [.int .i64 x8]) → Fr (blkOf lA2) hv17 hv18 → ((sA6 = lA2 ∧ sC6 = lC2) ∨ ∃ g, sA6 = some ⟨g, 0, none⟩ ∧ hv17.size ≤ g) → (lC2 < (lL2 + 1) → Fr [] hv17 hv18) →
            Iv5 [.slice sA6 (lL2 + 1) sC6, .int .i64 (IntKind.i64.wrap (i4 + (1 : Int)))] hv18 ∧ m5 [.slice sA6 (lL2 + 1) sC6, .int .i64 (IntKind.i64.wrap (i4 + (1 : Int)))] hv18 < m5 [.slice lA2 lL2 lC2, .int .i64 i4] hv16)
            (R (.tuple #[.int .i64 33, .slice lA2 lL2 lC2, .slice pathsA pathsL pathsC]) hv16)))))
theorem calls155 {h : Heap} {R : Value → Heap → Prop} (nodesA : Option Addr) (nodesL nodesC : Nat) (wayA : Option Addr) (wayL wayC : Nat) (H : S155 nodesA nodesL nodesC wayA wayL wayC h R) : CallsH Try.prog 155 #[.slice nodesA nodesL nodesC, .slice wayA wayL wayC] h R := by
  have e : S155 nodesA nodesL nodesC wayA wayL wayC h R = FX (envX [33, 37, 78, 92, 106] 110) { loops := [(0, ⟨[0, 1], [7, 8, 9], [], []⟩), (2, ⟨[0, 1, 7, 8], [10, 11], [], []⟩), (4, ⟨[0, 1, 7, 8, 11], [10, 12], [], []⟩), (6, ⟨[0, 7, 8, 10], [13, 14], [], []⟩), (8, ⟨[0, 8, 10], [13, 15], [], []⟩)], joins := [(30, ⟨[0, 1, 9], [7, 8], [], []⟩)], blocks := [], draws := [(17, ⟨14, false⟩), (19, ⟨17, true⟩)] } Try.f155 (Try.f155.body.getD .skip) [.slice nodesA nodesL nodesC, .slice wayA wayL wayC] h R := by kernel_rfl
  exact calls_of_FX (envX_ok _ _) Try.func155 (by kernel_rfl) (by kernel_rfl) (by kernel_rfl) (e ▸ H)
/-- tracery/traceryref12.All -/
def S61 (g : Int) (gA : Option Addr) (gL gC : Nat) (edgesA : Option Addr) (edgesL edgesC : Nat) (h : Heap) (R : Value → Heap → Prop) : Prop :=
  let hv : Heap := h.push (.cells #[.int .i64 g, .slice gA gL gC] 26)
  callX Try.prog 151 #[.agg #[.int .i64 g, .slice gA gL gC], .slice edgesA edgesL edgesC] hv [h.size] fun v hv2 =>
  ∃ (rA : Option Addr) (rL rC : Nat), v = .slice rA rL rC ∧
  callX Try.prog 152 #[.slice rA rL rC] hv2 [h.size] fun v2 hv3 =>
  ∃ (raA : Option Addr) (raL raC : Nat), ∃ rb : Int, v2 = .tuple #[.slice raA raL raC, .int .i64 rb] ∧
  cnd (rb == (0 : Int))
    (R (.tuple #[.int .i64 0, .slice none 0 0, .slice none 0 0]) hv3)
    (callX Try.prog 153 #[.agg #[.int .i64 g, .slice gA gL gC], .slice edgesA edgesL edgesC] hv3 [h.size] fun v3 hv4 =>
    ∃ (rA2 : Option Addr) (rL2 rC2 : Nat), v3 = .slice rA2 rL2 rC2 ∧
    0 ≤ ((raL : Nat) : Int) ∧ ((raL : Nat) : Int) ≤ ((raL : Nat) : Int) ∧ ((24 : Nat) : Int) * ((raL : Nat) : Int) ≤ 281474976710656 ∧ ((raL : Nat) : Int) ≤ 9223372036854775807 ∧ let hv5 : Heap := hv4.push (.cells (madeCells (List.toArray [.slice none 0 0]) (Int.toNat ((raL : Nat) : Int) * 1)) 73)
    ∃ (Iv : List Value → Heap → Prop) (m : List Value → Heap → Nat), Iv [.int .i64 0, .int .i64 0] hv5 ∧ -- loop 0: ['used', 'i']
    ∀ used : Int, ∀ i : Int, ∀ hv6, Iv [.int .i64 used, .int .i64 i] hv6 →
    cnd (decide (i < ((raL : Nat) : Int)))
      (0 ≤ ((raL : Nat) : Int) ∧ ((raL : Nat) : Int) ≤ ((raL : Nat) : Int) ∧ ((24 : Nat) : Int) * ((raL : Nat) : Int) ≤ 281474976710656 ∧ ((raL : Nat) : Int) ≤ 9223372036854775807 ∧ let hv7 : Heap := hv6.push (.cells (madeCells (List.toArray [.slice none 0 0]) (Int.toNat ((raL : Nat) : Int) * 1)) 40)
      ∃ b o, (some (⟨hv4.size, 0, none⟩ : Addr)) = some ⟨b, o, none⟩ ∧ 0 ≤ i ∧ i < ((Int.toNat ((raL : Nat) : Int)) : Nat) ∧ b ≠ h.size ∧ (∃ u, hcell hv7 b (o + (Int.toNat i) * 1) = some u) ∧ hfree hv7 b (o + (Int.toNat i) * 1) = true ∧ let hv8 : Heap := hset hv7 b (o + (Int.toNat i) * 1) (.slice (some (⟨hv6.size, 0, none⟩ : Addr)) (Int.toNat ((raL : Nat) : Int)) (Int.toNat ((raL : Nat) : Int)))
      ∃ (Iv2 : List Value → Heap → Prop) (m2 : List Value → Heap → Nat), Iv2 [.int .i64 used, .int .i64 0] hv8 ∧ -- loop 2: ['used', 'k']
      ∀ used2 : Int, ∀ k : Int, ∀ hv9, Iv2 [.int .i64 used2, .int .i64 k] hv9 →
      ∃ b2 o2, raA = some ⟨b2, o2, none⟩ ∧ 0 ≤ i ∧ i < (raL : Nat) ∧ ∃ x : Int, hcell hv9 b2 (o2 + (Int.toNat i) * 1) = some (.int .i64 x) ∧ ∃ b3 o3, rA2 = some ⟨b3, o3, none⟩ ∧ 0 ≤ x ∧ x < (rL2 : Nat) ∧ ∃ (xA : Option Addr) (xL xC : Nat), hcell hv9 b3 (o3 + (Int.toNat x) * 1) = some (.slice xA xL xC) ∧ cnd (decide (k < ((xL : Nat) : Int)))
        (∃ b4 o4, raA = some ⟨b4, o4, none⟩ ∧ 0 ≤ i ∧ i < (raL : Nat) ∧ ∃ x2 : Int, hcell hv9 b4 (o4 + (Int.toNat i) * 1) = some (.int .i64 x2) ∧ ∃ b5 o5, rA2 = some ⟨b5, o5, none⟩ ∧ 0 ≤ x2 ∧ x2 < (rL2 : Nat) ∧ ∃ (xA2 : Option Addr) (xL2 xC2 : Nat), hcell hv9 b5 (o5 + (Int.toNat x2) * 1) = some (.slice xA2 xL2 xC2) ∧ ∃ b6 o6, xA2 = some ⟨b6, o6, none⟩ ∧ 0 ≤ k ∧ k < (xL2 : Nat) ∧ ∃ x3 : Int, hcell hv9 b6 (o6 + (Int.toNat k) * 1) = some (.int .i64 x3) ∧ callX Try.prog 154 #[.agg #[.int .i64 g, .slice gA gL gC], .slice rA2 rL2 rC2, .slice rA rL rC, .int .i64 x3] hv9 [h.size] fun v4 hv10 =>
        ∃ (rA3 : Option Addr) (rL3 rC3 : Nat), v4 = .slice rA3 rL3 rC3 ∧
        Fr [] hv9 hv10 ∧
        let K := fun (j2 : Int) (hv13 : Heap) =>
          (let K2 := fun (hv14 : Heap) =>
            (R (.tuple #[.int .i64 0, .slice none 0 0, .slice none 0 0]) hv14)
          cnd (j2 == ((raL : Nat) : Int))
            (K2 hv13)
            (cnd (j2 == i)
              (K2 hv13)
              (∃ b9 o9, (some (⟨hv4.size, 0, none⟩ : Addr)) = some ⟨b9, o9, none⟩ ∧ 0 ≤ i ∧ i < ((Int.toNat ((raL : Nat) : Int)) : Nat) ∧ ∃ (xA3 : Option Addr) (xL3 xC3 : Nat), hcell hv13 b9 (o9 + (Int.toNat i) * 1) = some (.slice xA3 xL3 xC3) ∧ ∃ b10 o10, xA3 = some ⟨b10, o10, none⟩ ∧ 0 ≤ j2 ∧ j2 < (xL3 : Nat) ∧ ∃ (xA4 : Option Addr) (xL4 xC4 : Nat), hcell hv13 b10 (o10 + (Int.toNat j2) * 1) = some (.slice xA4 xL4 xC4) ∧ cnd (!(Option.isNone xA4))
                (R (.tuple #[.int .i64 0, .slice none 0 0, .slice none 0 0]) hv13)
                (∃ b11 o11, (some (⟨hv4.size, 0, none⟩ : Addr)) = some ⟨b11, o11, none⟩ ∧ 0 ≤ i ∧ i < ((Int.toNat ((raL : Nat) : Int)) : Nat) ∧ ∃ (xA5 : Option Addr) (xL5 xC5 : Nat), hcell hv13 b11 (o11 + (Int.toNat i) * 1) = some (.slice xA5 xL5 xC5) ∧ ∃ b12 o12, xA5 = some ⟨b12, o12, none⟩ ∧ 0 ≤ j2 ∧ j2 < (xL5 : Nat) ∧ b12 ≠ h.size ∧ (∃ u, hcell hv13 b12 (o12 + (Int.toNat j2) * 1) = some u) ∧ hfree hv13 b12 (o12 + (Int.toNat j2) * 1) = true ∧ let hv15 : Heap := hset hv13 b12 (o12 + (Int.toNat j2) * 1) (.slice rA3 rL3 rC3)
                ∃ Jv : List Value → Heap → Prop, -- join 121 ['used']
                ( cnd (decide (i < j2))
                   (Jv [.int .i64 (IntKind.i64.wrap (used2 + ((rL3 : Nat) : Int)))] hv15)
                   (Jv [.int .i64 used2] hv15)) ∧
                ∀ used3 : Int, ∀ hv16, Jv [.int .i64 used3] hv16 →
                Iv2 [.int .i64 used3, .int .i64 (IntKind.i64.wrap (k + (1 : Int)))] hv16 ∧ m2 [.int .i64 used3, .int .i64 (IntKind.i64.wrap (k + (1 : Int)))] hv16 < m2 [.int .i64 used2, .int .i64 k] hv9))))
        ∃ (Iv3 : List Value → Heap → Prop) (m3 : List Value → Heap → Nat), Iv3 [.int .i64 0] hv10 ∧ -- loop 4: ['j']
        ∀ j : Int, ∀ hv11, Iv3 [.int .i64 j] hv11 →
        cnd (decide (j < ((raL : Nat) : Int)))
          (∃ b7 o7, raA = some ⟨b7, o7, none⟩ ∧ 0 ≤ j ∧ j < (raL : Nat) ∧ ∃ x4 : Int, hcell hv11 b7 (o7 + (Int.toNat j) * 1) = some (.int .i64 x4) ∧ ∃ b8 o8, rA3 = some ⟨b8, o8, none⟩ ∧ 0 ≤ (IntKind.i64.wrap (((rL3 : Nat) : Int) - (1 : Int))) ∧ (IntKind.i64.wrap (((rL3 : Nat) : Int) - (1 : Int))) < (rL3 : Nat) ∧ ∃ x5 : Int, hcell hv11 b8 (o8 + (Int.toNat (IntKind.i64.wrap (((rL3 : Nat) : Int) - (1 : Int)))) * 1) = some (.int .i64 x5) ∧ callX Try.prog 55 #[.agg #[.int .i64 g, .slice gA gL gC], .int .i64 x5] hv11 [h.size] fun v5 hv12 =>
          ∃ r : Int, v5 = .int .i64 r ∧
          Fr [] hv11 hv12 ∧
          cnd (x4 != r)
            (Iv3 [.int .i64 (IntKind.i64.wrap (j + (1 : Int)))] hv12 ∧ m3 [.int .i64 (IntKind.i64.wrap (j + (1 : Int)))] hv12 < m3 [.int .i64 j] hv11)
            (K j hv12))
          (Fr [] hv11 hv11 ∧
          K j hv11))
        (Iv [.int .i64 used2, .int .i64 (IntKind.i64.wrap (i + (1 : Int)))] hv9 ∧ m [.int .i64 used2, .int .i64 (IntKind.i64.wrap (i + (1 : Int)))] hv9 < m [.int .i64 used, .int .i64 i] hv6))
      (cnd (used != ((edgesL : Nat) : Int))
        (R (.tuple #[.int .i64 0, .slice none 0 0, .slice none 0 0]) hv6)
        (cnd (rb == (5 : Int))
          (∃ (Iv4 : List Value → Heap → Prop) (m4 : List Value → Heap → Nat), Iv4 [.slice none 0 0, .int .i64 0] hv6 ∧ -- loop 6: ['paths', 'i']
          ∀ (pathsA : Option Addr) (pathsL pathsC : Nat), ∀ i2 : Int, ∀ hv17, Iv4 [.slice pathsA pathsL pathsC, .int .i64 i2] hv17 →
          cnd (decide (i2 < ((raL : Nat) : Int)))
            (∃ (Iv5 : List Value → Heap → Prop) (m5 : List Value → Heap → Nat), Iv5 [.slice pathsA pathsL pathsC, .int .i64 (IntKind.i64.wrap (i2 + (1 : Int)))] hv17 ∧ -- loop 8: ['paths', 'j']
            ∀ (pathsA2 : Option Addr) (pathsL2 pathsC2 : Nat), ∀ j3 : Int, ∀ hv18, Iv5 [.slice pathsA2 pathsL2 pathsC2, .int .i64 j3] hv18 →
            cnd (decide (j3 < ((raL : Nat) : Int)))
              (∃ b13 o13, (some (⟨hv4.size, 0, none⟩ : Addr)) = some ⟨b13, o13, none⟩ ∧ 0 ≤ i2 ∧ i2 < ((Int.toNat ((raL : Nat) : Int)) : Nat) ∧ ∃ (xA6 : Option Addr) (xL6 xC6 : Nat), hcell hv18 b13 (o13 + (Int.toNat i2) * 1) = some (.slice xA6 xL6 xC6) ∧ ∃ b14 o14, xA6 = some ⟨b14, o14, none⟩ ∧ 0 ≤ j3 ∧ j3 < (xL6 : Nat) ∧ ∃ (xA7 : Option Addr) (xL7 xC7 : Nat), hcell hv18 b14 (o14 + (Int.toNat j3) * 1) = some (.slice xA7 xL7 xC7) ∧ let hv19 : Heap := hv18.push (.cells #[.slice xA7 xL7 xC7] 40)
              ∃ old, Ownd hv19 40 1 pathsA2 pathsL2 pathsC2 old ∧ (∀ b ∈ ([hv18.size] : List Nat), b ∉ blkOf pathsA2) ∧ (pathsL2 + 1) * 24 ≤ 140737488355328 ∧ (pathsL2 + 1) ≤ maxLen ∧
              ∀ sA sC hv20, Ownd hv20 40 1 sA (pathsL2 + 1) sC (old ++ [.slice xA7 xL7 xC7]) → Fr (blkOf pathsA2) hv19 hv20 → ((sA = pathsA2 ∧ sC = pathsC2) ∨ ∃ g, sA = some ⟨g, 0, none⟩ ∧ hv19.size ≤ g) → (pathsC2 < (pathsL2 + 1) → Fr [] hv19 hv20) →
              Iv5 [.slice sA (pathsL2 + 1) sC, .int .i64 (IntKind.i64.wrap (j3 + (1 : Int)))] hv20 ∧ m5 [.slice sA (pathsL2 + 1) sC, .int .i64 (IntKind.i64.wrap (j3 + (1 : Int)))] hv20 < m5 [.slice pathsA2 pathsL2 pathsC2, .int .i64 j3] hv18)
              (Iv4 [.slice pathsA2 pathsL2 pathsC2, .int .i64 (IntKind.i64.wrap (i2 + (1 : Int)))] hv18 ∧ m4 [.slice pathsA2 pathsL2 pathsC2, .int .i64 (IntKind.i64.wrap (i2 + (1 : Int)))] hv18 < m4 [.slice pathsA pathsL pathsC, .int .i64 i2] hv17))
            (R (.tuple #[.int .i64 5, .slice raA raL raC, .slice pathsA pathsL pathsC]) hv17))
          (callX Try.prog 155 #[.slice raA raL raC, .slice (some (⟨hv4.size, 0, none⟩ : Addr)) (Int.toNat ((raL : Nat) : Int)) (Int.toNat ((raL : Nat) : Int))] hv6 [h.size] fun v6 hv21 =>
          ∃ ra : Int, ∃ (rbA : Option Addr) (rbL rbC : Nat), ∃ (rcA : Option Addr) (rcL rcC : Nat), v6 = .tuple #[.int .i64 ra, .slice rbA rbL rbC, .slice rcA rcL rcC] ∧
          R (.tuple #[.int .i64 ra, .slice rbA rbL rbC, .slice rcA rcL rcC]) hv21))))
theorem calls61 {h : Heap} {R : Value → Heap → Prop} (g : Int) (gA : Option Addr) (gL gC : Nat) (edgesA : Option Addr) (edgesL edgesC : Nat) (H : S61 g gA gL gC edgesA edgesL edgesC h R) : CallsH Try.prog 61 #[.agg #[.int .i64 g, .slice gA gL gC], .slice edgesA edgesL edgesC] h R := by
  have e : S61 g gA gL gC edgesA edgesL edgesC h R = FX (envX [2, 152] 162) { loops := [(0, ⟨[1, 2, 7, 8, 9, 10, 11, 12], [13, 14], [2], []⟩), (2, ⟨[1, 2, 7, 8, 9, 10, 11, 12, 14], [13, 15], [2], []⟩), (4, ⟨[1, 2, 7, 8, 9, 10, 11, 12, 13, 14, 15, 16], [17], [2], []⟩), (6, ⟨[8, 11, 12], [18, 19], [], []⟩), (8, ⟨[8, 11, 12, 19], [18, 20], [], []⟩)], joins := [(121, ⟨[1, 2, 7, 8, 9, 10, 11, 12, 14, 15], [13], [2], []⟩)], blocks := [], draws := [(16, ⟨15, false⟩), (18, ⟨18, false⟩)] } Try.f61 (Try.f61.body.getD .skip) [.agg #[.int .i64 g, .slice gA gL gC], .slice edgesA edgesL edgesC] h R := by kernel_rfl
  exact calls_of_FX (envX_ok _ _) Try.func61 (by kernel_rfl) (by kernel_rfl) (by kernel_rfl) (e ▸ H)
/-- tracery/traceryref12.All -/
def Ok61 (g : Int) (edgesV : List (Int × Int)) (edgesV2 : List Int) (R : Int → List Int → List (List Int) → Prop) : Prop :=
  ∀ (h : Heap) (gA : Option Addr) (gL gC : Nat) (edgesA : Option Addr) (edgesL edgesC : Nat), Hp h [Ck.vw eP gA gL gC edgesV, Ck.vw eI edgesA edgesL edgesC edgesV2] → CallsH Try.prog 61 #[.agg #[.int .i64 g, .slice gA gL gC], .slice edgesA edgesL edgesC] h fun v h' => ∃ (raV : Int) (rbVA : Option Addr) (rbVL rbVC : Nat) (rbV : List Int) (rcVA : Option Addr) (rcVL rcVC : Nat) (rcH : List RowH) (rcV : List (List Int)), Sy h [] h' [Ck.sl eI 3 rbVA rbVL rbVC rbV, Ck.rows eI 40 3 rcVA rcVL rcVC rcH rcV] ∧ v = .tuple #[.int .i64 raV, .slice rbVA rbVL rbVC, .slice rcVA rcVL rcVC] ∧ R raV rbV rcV
theorem Ok61.mono {g edgesV edgesV2} {R R' : Int → List Int → List (List Int) → Prop} (H : Ok61 g edgesV edgesV2 R) (kz : ∀ raV rbV rcV, R raV rbV rcV → R' raV rbV rcV) : Ok61 g edgesV edgesV2 R' :=
  fun h gA gL gC edgesA edgesL edgesC hp => (H h gA gL gC edgesA edgesL edgesC hp).mono fun _ _ ⟨raV, rbVA, rbVL, rbVC, rbV, rcVA, rcVL, rcVC, rcH, rcV, P, e, q⟩ => ⟨raV, rbVA, rbVL, rbVC, rbV, rcVA, rcVL, rcVC, rcH, rcV, P, e, kz _ _ _ q⟩
/-- tracery/traceryref12.Shrink -/
def S62 (g : Int) (gA : Option Addr) (gL gC : Nat) (edgesA : Option Addr) (edgesL edgesC : Nat) (h : Heap) (R : Value → Heap → Prop) : Prop :=
  let hv : Heap := h.push (.cells #[.int .i64 g, .slice gA gL gC] 26)
  let hv2 : Heap := hv.push (.cells #[.int .i64 0, .slice none 0 0] 26)
  callX Try.prog 61 #[.agg #[.int .i64 g, .slice gA gL gC], .slice edgesA edgesL edgesC] hv2 [hv.size, h.size] fun v hv3 =>
  ∃ ra : Int, ∃ (rbA : Option Addr) (rbL rbC : Nat), ∃ (rcA : Option Addr) (rcL rcC : Nat), v = .tuple #[.int .i64 ra, .slice rbA rbL rbC, .slice rcA rcL rcC] ∧
  cnd (ra == (0 : Int))
    (let hv4 : Heap := hset (hset hv3 hv.size 0 (.int .i64 0)) hv.size (0 + 1) (.slice none 0 0)
    R (.tuple #[.agg #[.int .i64 0, .slice none 0 0], .int .i64 14]) hv4)
    (let hv5 : Heap := hv3.push (.cells #[.int .i64 0, .slice none 0 0] 26)
    let hv6 : Heap := hset (hset hv5 hv3.size 0 (.int .i64 ((rbL : Nat) : Int))) hv3.size (0 + 1) (.slice none 0 0)
    ∃ (Iv : List Value → Heap → Prop) (m : List Value → Heap → Nat), Iv [.int .i64 0, .int .i64 ((rbL : Nat) : Int), .slice none 0 0] hv6 ∧ -- loop 0: ['i']
    ∀ i : Int, ∀ c0 : Int, ∀ (c1A : Option Addr) (c1L c1C : Nat), ∀ hv7, Iv [.int .i64 i, .int .i64 c0, .slice c1A c1L c1C] hv7 →
    cnd (decide (i < ((rcL : Nat) : Int)))
      (∃ b o, rcA = some ⟨b, o, none⟩ ∧ 0 ≤ i ∧ i < (rcL : Nat) ∧ ∃ (xA : Option Addr) (xL xC : Nat), hcell hv7 b (o + (Int.toNat i) * 1) = some (.slice xA xL xC) ∧ ∃ b2 o2, xA = some ⟨b2, o2, none⟩ ∧ 0 ≤ (0 : Int) ∧ (0 : Int) < (xL : Nat) ∧ ∃ x : Int, hcell hv7 b2 (o2 + (Int.toNat (0 : Int)) * 1) = some (.int .i64 x) ∧ ∃ b3 o3, rcA = some ⟨b3, o3, none⟩ ∧ 0 ≤ i ∧ i < (rcL : Nat) ∧ ∃ (xA2 : Option Addr) (xL2 xC2 : Nat), hcell hv7 b3 (o3 + (Int.toNat i) * 1) = some (.slice xA2 xL2 xC2) ∧ ∃ b4 o4, rcA = some ⟨b4, o4, none⟩ ∧ 0 ≤ i ∧ i < (rcL : Nat) ∧ ∃ (xA3 : Option Addr) (xL3 xC3 : Nat), hcell hv7 b4 (o4 + (Int.toNat i) * 1) = some (.slice xA3 xL3 xC3) ∧ ∃ b5 o5, xA2 = some ⟨b5, o5, none⟩ ∧ 0 ≤ (IntKind.i64.wrap (((xL3 : Nat) : Int) - (1 : Int))) ∧ (IntKind.i64.wrap (((xL3 : Nat) : Int) - (1 : Int))) < (xL2 : Nat) ∧ ∃ x2 : Int, hcell hv7 b5 (o5 + (Int.toNat (IntKind.i64.wrap (((xL3 : Nat) : Int) - (1 : Int)))) * 1) = some (.int .i64 x2) ∧ callX Try.prog 88 #[.agg #[.int .i64 g, .slice gA gL gC], .int .i64 x] hv7 [hv3.size, h.size, hv.size] fun v2 hv8 =>
      ∃ r : Int, v2 = .int .i64 r ∧
      Fr [] hv7 hv8 ∧
      callX Try.prog 55 #[.agg #[.int .i64 g, .slice gA gL gC], .int .i64 x2] hv8 [hv3.size, h.size, hv.size] fun v3 hv9 =>
      ∃ r2 : Int, v3 = .int .i64 r2 ∧
      Fr [] hv7 hv9 ∧
      let hv10 : Heap := hv9.push (.cells #[.int .i64 0, .int .i64 0] 35)
      ∃ (Iv2 : List Value → Heap → Prop) (m2 : List Value → Heap → Nat), Iv2 [.int .i64 0, .int .i64 0, .int .i64 0] hv10 ∧ -- loop 2: ['k']
      ∀ k : Int, ∀ c0_2 : Int, ∀ c1 : Int, ∀ hv11, Iv2 [.int .i64 k, .int .i64 c0_2, .int .i64 c1] hv11 →
      cnd (decide (k < ((rbL : Nat) : Int)))
        (∃ b6 o6, rbA = some ⟨b6, o6, none⟩ ∧ 0 ≤ k ∧ k < (rbL : Nat) ∧ ∃ x3 : Int, hcell hv11 b6 (o6 + (Int.toNat k) * 1) = some (.int .i64 x3) ∧ ∃ Jv : List Value → Heap → Prop, -- join 67 []
        ( cnd (x3 == r)
           (let hv12 : Heap := hset hv11 hv9.size 0 (.int .i64 k)
           Jv [.int .i64 k, .int .i64 c1] hv12)
           (Jv [.int .i64 c0_2, .int .i64 c1] hv11)) ∧
        ∀ c0_3 : Int, ∀ c1_2 : Int, ∀ hv13, Jv [.int .i64 c0_3, .int .i64 c1_2] hv13 →
        ∃ b7 o7, rbA = some ⟨b7, o7, none⟩ ∧ 0 ≤ k ∧ k < (rbL : Nat) ∧ ∃ x4 : Int, hcell hv13 b7 (o7 + (Int.toNat k) * 1) = some (.int .i64 x4) ∧ ∃ Jv2 : List Value → Heap → Prop, -- join 75 []
        ( cnd (x4 == r2)
           (let hv14 : Heap := hset hv13 hv9.size 1 (.int .i64 k)
           Jv2 [.int .i64 c0_3, .int .i64 k] hv14)
           (Jv2 [.int .i64 c0_3, .int .i64 c1_2] hv13)) ∧
        ∀ c0_4 : Int, ∀ c1_3 : Int, ∀ hv15, Jv2 [.int .i64 c0_4, .int .i64 c1_3] hv15 →
        Iv2 [.int .i64 (IntKind.i64.wrap (k + (1 : Int))), .int .i64 c0_4, .int .i64 c1_3] hv15 ∧ m2 [.int .i64 (IntKind.i64.wrap (k + (1 : Int))), .int .i64 c0_4, .int .i64 c1_3] hv15 < m2 [.int .i64 k, .int .i64 c0_2, .int .i64 c1] hv11)
        (let hv16 : Heap := hv11.push (.cells #[.int .i64 c0_2, .int .i64 c1] 35)
        ∃ old, Ownd hv16 35 2 c1A c1L c1C old ∧ (∀ b ∈ ([hv11.size, hv9.size, h.size, hv.size, hv3.size] : List Nat), b ∉ blkOf c1A) ∧ (c1L + 1) * 16 ≤ 140737488355328 ∧ (c1L + 1) ≤ maxLen ∧
        ∀ sA sC hv17, Ownd hv17 35 2 sA (c1L + 1) sC (old ++ [.int .i64 c0_2, .int .i64 c1]) → Fr (blkOf c1A) hv16 hv17 → ((sA = c1A ∧ sC = c1C) ∨ ∃ g, sA = some ⟨g, 0, none⟩ ∧ hv16.size ≤ g) → (c1C < (c1L + 1) → Fr [] hv16 hv17) →
        let hv18 : Heap := hset hv17 hv3.size 1 (.slice sA (c1L + 1) sC)
        Iv [.int .i64 (IntKind.i64.wrap (i + (1 : Int))), .int .i64 c0, .slice sA (c1L + 1) sC] hv18 ∧ m [.int .i64 (IntKind.i64.wrap (i + (1 : Int))), .int .i64 c0, .slice sA (c1L + 1) sC] hv18 < m [.int .i64 i, .int .i64 c0, .slice c1A c1L c1C] hv7))
      (let hv19 : Heap := hset (hset hv7 hv.size 0 (.int .i64 c0)) hv.size (0 + 1) (.slice c1A c1L c1C)
      R (.tuple #[.agg #[.int .i64 c0, .slice c1A c1L c1C], .int .i64 0]) hv19))
theorem calls62 {h : Heap} {R : Value → Heap → Prop} (g : Int) (gA : Option Addr) (gL gC : Nat) (edgesA : Option Addr) (edgesL edgesC : Nat) (H : S62 g gA gL gC edgesA edgesL edgesC h R) : CallsH Try.prog 62 #[.agg #[.int .i64 g, .slice gA gL gC], .slice edgesA edgesL edgesC] h R := by
  have e : S62 g gA gL gC edgesA edgesL edgesC h R = FX (envX [2, 4, 9, 13, 81] 85) { loops := [(0, ⟨[2, 4, 7, 8, 9], [10], [2, 4], [9]⟩), (2, ⟨[2, 4, 7, 8, 9, 10, 11, 12, 13], [14], [2, 4, 9], [13]⟩)], joins := [(67, ⟨[2, 4, 7, 8, 9, 10, 11, 12, 13, 14], [], [2, 4, 9], [13]⟩), (75, ⟨[2, 4, 7, 8, 9, 10, 11, 12, 13, 14], [], [2, 4, 9], [13]⟩)], blocks := [], draws := [(8, ⟨24, false⟩)] } Try.f62 (Try.f62.body.getD .skip) [.agg #[.int .i64 g, .slice gA gL gC], .slice edgesA edgesL edgesC] h R := by kernel_rfl
  exact calls_of_FX (envX_ok _ _) Try.func62 (by kernel_rfl) (by kernel_rfl) (by kernel_rfl) (e ▸ H)
/-- tracery/traceryref12.Shrink -/
def Ok62 (g : Int) (edgesV : List (Int × Int)) (edgesV2 : List Int) (R : Int → List (Int × Int) → Int → Prop) : Prop :=
  ∀ (h : Heap) (gA : Option Addr) (gL gC : Nat) (edgesA : Option Addr) (edgesL edgesC : Nat), Hp h [Ck.vw eP gA gL gC edgesV, Ck.vw eI edgesA edgesL edgesC edgesV2] → CallsH Try.prog 62 #[.agg #[.int .i64 g, .slice gA gL gC], .slice edgesA edgesL edgesC] h fun v h' => ∃ (nV : Int) (edgesVA : Option Addr) (edgesVL edgesVC : Nat) (edgesV3 : List (Int × Int)) (rbV : Int), Sy h [] h' [Ck.sl eP 35 edgesVA edgesVL edgesVC edgesV3] ∧ v = .tuple #[.agg #[.int .i64 nV, .slice edgesVA edgesVL edgesVC], .int .i64 rbV] ∧ R nV edgesV3 rbV
theorem Ok62.mono {g edgesV edgesV2} {R R' : Int → List (Int × Int) → Int → Prop} (H : Ok62 g edgesV edgesV2 R) (kz : ∀ nV edgesV3 rbV, R nV edgesV3 rbV → R' nV edgesV3 rbV) : Ok62 g edgesV edgesV2 R' :=
  fun h gA gL gC edgesA edgesL edgesC hp => (H h gA gL gC edgesA edgesL edgesC hp).mono fun _ _ ⟨nV, edgesVA, edgesVL, edgesVC, edgesV3, rbV, P, e, q⟩ => ⟨nV, edgesVA, edgesVL, edgesVC, edgesV3, rbV, P, e, kz _ _ _ q⟩
def T62 (g : Int) (edgesV : List (Int × Int)) (edgesV2 : List Int) (R : Int → List (Int × Int) → Int → Prop) : Prop :=
  Ok61 g edgesV edgesV2 (fun ra rb rc =>
  cnd (ra == (0 : Int))
    (R 0 ([] : List (Int × Int)) 14)
    (∃ (Iv : Int → Int → List (Int × Int) → Prop) (m : Int → Int → List (Int × Int) → Nat), Iv 0 ((rb.length : Nat) : Int) ([] : List (Int × Int)) ∧
    ∀ i : Int, ∀ c0 : Int, ∀ c1_4 : List (Int × Int), Iv i c0 c1_4 →
    cnd (decide (i < ((rc.length : Nat) : Int)))
      (0 ≤ i ∧ i < ((rc.length : Nat) : Int) ∧ ∀ rc_2 : List Int, rc[(Int.toNat i)]? = some rc_2 → 0 ≤ (0 : Int) ∧ (0 : Int) < ((rc_2.length : Nat) : Int) ∧ ∀ x_2 : Int, rc_2[(Int.toNat (0 : Int))]? = some x_2 → 0 ≤ (IntKind.i64.wrap (((rc_2.length : Nat) : Int) - (1 : Int))) ∧ (IntKind.i64.wrap (((rc_2.length : Nat) : Int) - (1 : Int))) < ((rc_2.length : Nat) : Int) ∧ ∀ x_3 : Int, rc_2[(Int.toNat (IntKind.i64.wrap (((rc_2.length : Nat) : Int) - (1 : Int))))]? = some x_3 → Ok88 g edgesV x_2 (fun r =>
      Ok55 g edgesV x_3 (fun r2 =>
      ∃ (Iv2 : Int → Int → Int → Prop) (m2 : Int → Int → Int → Nat), Iv2 0 0 0 ∧
      ∀ k : Int, ∀ c0_2 : Int, ∀ c1 : Int, Iv2 k c0_2 c1 →
      cnd (decide (k < ((rb.length : Nat) : Int)))
        (0 ≤ k ∧ k < ((rb.length : Nat) : Int) ∧ ∀ rb_2 : Int, rb[(Int.toNat k)]? = some rb_2 → ∃ Jv : Int → Int → Prop,
        ( cnd (rb_2 == r)
           (Jv k c1)
           (Jv c0_2 c1)) ∧
        ∀ c0_3 : Int, ∀ c1_2 : Int, Jv c0_3 c1_2 →
        ∃ Jv2 : Int → Int → Prop,
        ( cnd (rb_2 == r2)
           (Jv2 c0_3 k)
           (Jv2 c0_3 c1_2)) ∧
        ∀ c0_4 : Int, ∀ c1_3 : Int, Jv2 c0_4 c1_3 →
        Iv2 (IntKind.i64.wrap (k + (1 : Int))) c0_4 c1_3 ∧ m2 (IntKind.i64.wrap (k + (1 : Int))) c0_4 c1_3 < m2 k c0_2 c1)
        ((c1_4.length + 1) < 1000000000000 ∧ Iv (IntKind.i64.wrap (i + (1 : Int))) c0 (c1_4 ++ [(c0_2, c1)]) ∧ m (IntKind.i64.wrap (i + (1 : Int))) c0 (c1_4 ++ [(c0_2, c1)]) < m i c0 c1_4))))
      (R c0 c1_4 0)))
theorem ok62 {g edgesV edgesV2} {R : Int → List (Int × Int) → Int → Prop} (T : T62 g edgesV edgesV2 R) : Ok62 g edgesV edgesV2 R := by
  intro h gA gL gC edgesA edgesL edgesC H
  have Y : Sy h [] h _ := Sy.startM H rfl
  obtain rfl := Y.lenV 0 rfl
  obtain rfl := Y.lenV 1 rfl
  apply calls62
  unfold S62
  unfold T62 at T
  intro hv
  have Y : Sy _ _ hv [_, _, _] := Y.junk _
  clear_value hv
  intro hv2
  have Y : Sy _ _ hv2 [_, _, _, _] := Y.junk _
  clear_value hv2
  refine callX_sy (T _ _ _ _ _ _ _ (Y.pick [0, 1] rfl).hp) (fun _ _ ⟨_, _, _, _, _, _, _, _, _, _, p, _⟩ => p.fr) (allc (fun h => by cases h) (allc (fun h => by cases h) alln)) ?_
  rintro v hv3 ⟨ra, rbA, rbL, rbC, rb, rcA, rcL, rcC, rcH, rc, PP, rfl, T⟩
  have Y : Sy _ _ hv3 [_, _, _, _, _, _] := Y.callV PP ⟨rfl, ⟨rfl, trivial⟩⟩
  clear PP
  obtain rfl := Y.lenS 4 rfl
  obtain rfl := Y.lenR 5 rfl
  refine ⟨ra, _, _, _, _, _, _, rfl, ?_⟩
  refine cnd_imp T (fun T => ?_) (fun T => ?_)
  · intro hv4
    have Y : Sy _ _ hv4 [_, _, _, _, _, _] := ((Y.stJ 3 rfl _ _).stJ 3 rfl _ _)
    clear_value hv4
    have Y : Sy _ _ _ [_, _, _, _, _, _, _] := Y.nilS eP 35
    exact ⟨_, _, _, _, _, _, Y.pick [6] rfl, rfl, T⟩
  · intro hv5
    have Y : Sy _ _ hv5 [_, _, _, _, _, _, _] := Y.junk _
    clear_value hv5
    intro hv6
    have Y : Sy _ _ hv6 [_, _, _, _, _, _, _] := ((Y.stJ 6 rfl _ _).stJ 6 rfl _ _)
    clear_value hv6
    have Y : Sy _ _ _ [_, _, _, _, _, _, _, _] := Y.nilS eP 35
    obtain ⟨Iv, m, T0, T1⟩ := T
    obtain ⟨B, hB, YB⟩ := Y.cut [7] [0, 1, 2, 3, 4, 5, 6] rfl
    obtain ⟨JJ, hJJ⟩ : ∃ JJ : Nat → List Value → Heap → Prop, JJ = (fun k_2 lz h' => ∃ (i : Int) (c0 : Int) (c1A : Option Addr) (c1L c1C : Nat) (c1_4 : List (Int × Int)), lz = [.int .i64 i, .int .i64 c0, .slice c1A c1L c1C] ∧ Sy h [] h' ([Ck.sl eP 35 c1A c1L c1C c1_4] ++ B) ∧ Iv i c0 c1_4 ∧ m i c0 c1_4 = k_2) := ⟨_, rfl⟩
    refine ⟨fun lz h' => ∃ k_2, JJ k_2 lz h', Lm JJ, ?_, ?_⟩
    · subst hJJ hB
      exact ⟨_, _, _, _, _, _, _, rfl, YB, T0, rfl⟩
    · clear YB T0 Y
      intro i c0 c1A c1L c1C hv7 hI
      obtain ⟨k_2, hI, hm⟩ := loopIn hI
      subst hJJ hB
      obtain ⟨i, c0, c1A, c1L, c1C, c1_4, e, Y, T, rfl⟩ := hI
      cases e
      obtain rfl := Y.lenS 0 rfl
      replace T := T1 i c0 c1_4 T
      have Y : Sy _ _ _ [_, _, _, _, _, _, _, _] := Y
      refine cnd_imp T (fun T => ?_) (fun T => ?_)
      · have Y0 := Y
        have F : Fr [] hv7 hv7 := Fr.refl _ _
        obtain ⟨q, q_2, T⟩ := T
        obtain ⟨b_2, hb, ho, rc_2, hx, r_2, hr⟩ := Y0.atR 6 rfl q q_2
        refine ⟨b_2, 0, hb, q, q_2, ?_⟩
        replace T := T rc_2 hx
        refine ⟨_, _, _, Y0.cellR 6 rfl hb hr hx, ?_⟩
        obtain ⟨q_3, q_4, T⟩ := T
        obtain ⟨b_3, hb_2, ho_2, x_2, hx_2⟩ := Y0.atRow 6 rfl hr hx q_3 q_4
        refine ⟨b_3, 0, hb_2, q_3, q_4, ?_⟩
        replace T := T x_2 hx_2
        refine ⟨_, Y0.cellRow 6 rfl hr hx hb_2 (t := 0) hx_2 rfl, ?_⟩
        refine ⟨b_2, 0, hb, q, q_2, ?_⟩
        refine ⟨_, _, _, Y0.cellR 6 rfl hb hr hx, ?_⟩
        refine ⟨b_2, 0, hb, q, q_2, ?_⟩
        refine ⟨_, _, _, Y0.cellR 6 rfl hb hr hx, ?_⟩
        obtain ⟨q_5, q_6, T⟩ := T
        obtain ⟨b_4, hb_3, ho_3, x_3, hx_3⟩ := Y0.atRow 6 rfl hr hx q_5 q_6
        refine ⟨b_4, 0, hb_3, q_5, q_6, ?_⟩
        replace T := T x_3 hx_3
        refine ⟨_, Y0.cellRow 6 rfl hr hx hb_3 (t := 0) hx_3 rfl, ?_⟩
        refine callX_sy (T _ _ _ _ (Y.pick [1] rfl).hp) (fun _ _ ⟨_, p, _⟩ => p.fr) (allc (fun h => by cases h) (allc (fun h => by cases h) (allc (fun h => by cases h) alln))) ?_
        rintro v2 hv8 ⟨r, PP, rfl, T⟩
        have F : Fr _ _ hv8 := F.trans PP.fr.nil
        have fshv8 := F.size
        have Y : Sy _ _ hv8 [_, _, _, _, _, _, _, _] := Y.gr PP.fr
        clear PP
        refine ⟨r, rfl, ?_⟩
        refine ⟨F, ?_⟩
        refine callX_sy (T _ _ _ _ (Y.pick [1] rfl).hp) (fun _ _ ⟨_, p, _⟩ => p.fr) (allc (fun h => by cases h) (allc (fun h => by cases h) (allc (fun h => by cases h) alln))) ?_
        rintro v3 hv9 ⟨r2, PP, rfl, T⟩
        have F : Fr _ _ hv9 := F.trans PP.fr.nil
        have fshv9 := F.size
        have Y : Sy _ _ hv9 [_, _, _, _, _, _, _, _] := Y.gr PP.fr
        clear PP
        refine ⟨r2, rfl, ?_⟩
        refine ⟨F, ?_⟩
        intro hv10
        have Y : Sy _ _ hv10 [_, _, _, _, _, _, _, _, _] := Y.junk _
        clear_value hv10
        obtain ⟨Iv2, m2, T0, T1⟩ := T
        obtain ⟨B_2, hB_2, YB⟩ := Y.cut [] [0, 1, 2, 3, 4, 5, 6, 7, 8] rfl
        obtain ⟨JJ_2, hJJ_2⟩ : ∃ JJ_2 : Nat → List Value → Heap → Prop, JJ_2 = (fun k_3 lz h' => ∃ (k : Int) (c0_2 : Int) (c1 : Int), lz = [.int .i64 k, .int .i64 c0_2, .int .i64 c1] ∧ Sy h [] h' ([] ++ B_2) ∧ Iv2 k c0_2 c1 ∧ m2 k c0_2 c1 = k_3) := ⟨_, rfl⟩
        refine ⟨fun lz h' => ∃ k_3, JJ_2 k_3 lz h', Lm JJ_2, ?_, ?_⟩
        · subst hJJ_2 hB_2
          exact ⟨_, _, _, _, rfl, YB, T0, rfl⟩
        · clear YB T0 Y
          intro k c0_2 c1 hv11 hI
          obtain ⟨k_3, hI, hm_2⟩ := loopIn hI
          subst hJJ_2 hB_2
          obtain ⟨k, c0_2, c1, e, Y, T, rfl⟩ := hI
          cases e
          replace T := T1 k c0_2 c1 T
          have Y : Sy _ _ _ [_, _, _, _, _, _, _, _, _] := Y
          refine cnd_imp T (fun T => ?_) (fun T => ?_)
          · obtain ⟨q_7, q_8, T⟩ := T
            obtain ⟨b_5, hb_4, ho_4, rb_2, hx_4⟩ := Y.atS 5 rfl q_7 q_8
            refine ⟨b_5, 0, hb_4, q_7, q_8, ?_⟩
            replace T := T rb_2 hx_4
            refine ⟨_, Y.cellS 5 rfl hb_4 (t := 0) hx_4 rfl, ?_⟩
            obtain ⟨Jv, T0, T1⟩ := T
            obtain ⟨B_3, hB_3, _⟩ := Y.cut [] [0, 1, 2, 3, 4, 5, 6, 7, 8] rfl
            refine ⟨fun lz h' => ∃ (c0_3 : Int) (c1_2 : Int), lz = [.int .i64 c0_3, .int .i64 c1_2] ∧ Sy h [] h' ([] ++ B_3) ∧ Jv c0_3 c1_2, ?_, ?_⟩
            · subst hB_3
              replace T := T0
              clear T0 T1
              refine cnd_imp T (fun T => ?_) (fun T => ?_)
              · intro hv12
                have Y : Sy _ _ hv12 [_, _, _, _, _, _, _, _, _] := (Y.stJ 8 rfl _ _)
                clear_value hv12
                exact ⟨_, _, rfl, Y.pick [0, 1, 2, 3, 4, 5, 6, 7, 8] rfl, T⟩
              · exact ⟨_, _, rfl, Y.pick [0, 1, 2, 3, 4, 5, 6, 7, 8] rfl, T⟩
            · subst hB_3
              clear T0 Y
              rintro c0_3 c1_2 hv13 ⟨c0_3, c1_2, e, Y, T⟩
              cases e
              replace T := T1 c0_3 c1_2 T
              have Y : Sy _ _ _ [_, _, _, _, _, _, _, _, _] := Y
              refine ⟨b_5, 0, hb_4, q_7, q_8, ?_⟩
              refine ⟨_, Y.cellS 5 rfl hb_4 (t := 0) hx_4 rfl, ?_⟩
              obtain ⟨Jv2, T0, T1⟩ := T
              obtain ⟨B_4, hB_4, _⟩ := Y.cut [] [0, 1, 2, 3, 4, 5, 6, 7, 8] rfl
              refine ⟨fun lz h' => ∃ (c0_4 : Int) (c1_3 : Int), lz = [.int .i64 c0_4, .int .i64 c1_3] ∧ Sy h [] h' ([] ++ B_4) ∧ Jv2 c0_4 c1_3, ?_, ?_⟩
              · subst hB_4
                replace T := T0
                clear T0 T1
                refine cnd_imp T (fun T => ?_) (fun T => ?_)
                · intro hv14
                  have Y : Sy _ _ hv14 [_, _, _, _, _, _, _, _, _] := (Y.stJ 8 rfl _ _)
                  clear_value hv14
                  exact ⟨_, _, rfl, Y.pick [0, 1, 2, 3, 4, 5, 6, 7, 8] rfl, T⟩
                · exact ⟨_, _, rfl, Y.pick [0, 1, 2, 3, 4, 5, 6, 7, 8] rfl, T⟩
              · subst hB_4
                clear T0 Y
                rintro c0_4 c1_3 hv15 ⟨c0_4, c1_3, e, Y, T⟩
                cases e
                replace T := T1 c0_4 c1_3 T
                have Y : Sy _ _ _ [_, _, _, _, _, _, _, _, _] := Y
                exact loopBack hm_2 ⟨_, _, _, rfl, Y.pick [0, 1, 2, 3, 4, 5, 6, 7, 8] rfl, T.1, rfl⟩ T.2
          · intro hv16
            have Y : Sy _ _ hv16 [_, _, _, _, _, _, _, _, _, _] := Y.junk _
            clear_value hv16
            obtain ⟨q_9, T⟩ := T
            refine ⟨_, Y.ownS 0 rfl, (allc (Y.nJ 0 9 rfl rfl rfl) (allc (Y.nJ 0 8 rfl rfl rfl) (allc (Y.nJ 0 3 rfl rfl rfl) (allc (Y.nJ 0 4 rfl rfl rfl) (allc (Y.nJ 0 7 rfl rfl rfl) alln))))), by first | exact appB q_9 (by decide) | omega, by first | exact appM q_9 | (simp [maxLen]; omega), ?_⟩
            intro sA sC hv17 ow fA gA gB
            have Y : Sy _ _ hv17 [_, _, _, _, _, _, _, _, _, _] := Y.appS 0 rfl ([(c0_2, c1)] : List (Int × Int)) ow fA gA rfl rfl
            intro hv18
            have Y : Sy _ _ hv18 [_, _, _, _, _, _, _, _, _, _] := (Y.stJ 7 rfl _ _)
            clear_value hv18
            exact loopBack hm ⟨_, _, _, _, _, _, rfl, Y.pick [0, 1, 2, 3, 4, 5, 6, 7] rfl, T.1, rfl⟩ T.2
      · intro hv19
        have Y : Sy _ _ hv19 [_, _, _, _, _, _, _, _] := ((Y.stJ 4 rfl _ _).stJ 4 rfl _ _)
        clear_value hv19
        exact ⟨_, _, _, _, _, _, Y.pick [0] rfl, rfl, T⟩
/-- (*tracery/tracerylaw3.Ints).KeepAll -/
def S71 (bP : Option Addr) (lA : Option Addr) (lL lC : Nat) (h : Heap) (R : Value → Heap → Prop) : Prop :=
  ∃ (Iv : List Value → Heap → Prop) (m : List Value → Heap → Nat), Iv [.int .i64 0] h ∧ -- loop 0: ['i']
  ∀ i : Int, ∀ hv, Iv [.int .i64 i] hv →
  cnd (decide (i < ((lL : Nat) : Int)))
    (∃ b o, lA = some ⟨b, o, none⟩ ∧ 0 ≤ i ∧ i < (lL : Nat) ∧ ∃ (xA : Option Addr) (xL xC : Nat), hcell hv b (o + (Int.toNat i) * 1) = some (.slice xA xL xC) ∧ let hv2 : Heap := hv.push (.cells #[.slice xA xL xC] 40)
    callX Try.prog 70 #[.pointer bP, .slice (some (⟨hv.size, 0, none⟩ : Addr)) 1 1] hv2 [] fun v hv3 =>
    v = .tuple #[] ∧
    Iv [.int .i64 (IntKind.i64.wrap (i + (1 : Int)))] hv3 ∧ m [.int .i64 (IntKind.i64.wrap (i + (1 : Int)))] hv3 < m [.int .i64 i] hv)
    (R (.tuple #[]) hv)
theorem calls71 {h : Heap} {R : Value → Heap → Prop} (bP : Option Addr) (lA : Option Addr) (lL lC : Nat) (H : S71 bP lA lL lC h R) : CallsH Try.prog 71 #[.pointer bP, .slice lA lL lC] h R := by
  have e : S71 bP lA lL lC h R = FX (envX [] 18) { loops := [(0, ⟨[0, 1], [4], [], []⟩)], joins := [], blocks := [], draws := [] } Try.f71 (Try.f71.body.getD .skip) [.pointer bP, .slice lA lL lC] h R := by kernel_rfl
  exact calls_of_FX (envX_ok _ _) Try.func71 (by kernel_rfl) (by kernel_rfl) (by kernel_rfl) (e ▸ H)
/-- (*tracery/tracerylaw3.Ints).KeepAll -/
def Ok71 (lV : List (List Int)) (sizeV : Int) (lV2 : List (List Int)) (R : List (List Int) → Int → Prop) : Prop :=
  ∀ (h : Heap) (bB : Nat) (lVA : Option Addr) (lVL lVC : Nat) (lH : List RowH) (lA : Option Addr) (lL lC : Nat) (lH2 : List RowH), Hp h [Ck.ob bB 90 [.slice lVA lVL lVC, .int .i64 sizeV], Ck.rows eI 40 3 lVA lVL lVC lH lV, Ck.rows eI 40 3 lA lL lC lH2 lV2] → CallsH Try.prog 71 #[.pointer (some ⟨bB, 0, none⟩), .slice lA lL lC] h fun v h' => ∃ (lVA2 : Option Addr) (lVL2 lVC2 : Nat) (lH3 : List RowH) (lV1 : List (List Int)) (sizeV2 : Int), Sy h (owns [Ck.ob bB 90 [.slice lVA lVL lVC, .int .i64 sizeV], Ck.rows eI 40 3 lVA lVL lVC lH lV, Ck.rows eI 40 3 lA lL lC lH2 lV2]) h' [Ck.ob bB 90 [.slice lVA2 lVL2 lVC2, .int .i64 sizeV2], Ck.rows eI 40 3 lVA2 lVL2 lVC2 lH3 lV1] ∧ v = .tuple #[] ∧ R lV1 sizeV2
theorem Ok71.mono {lV sizeV lV2} {R R' : List (List Int) → Int → Prop} (H : Ok71 lV sizeV lV2 R) (kz : ∀ lV1 sizeV2, R lV1 sizeV2 → R' lV1 sizeV2) : Ok71 lV sizeV lV2 R' :=
  fun h bB lVA lVL lVC lH lA lL lC lH2 hp => (H h bB lVA lVL lVC lH lA lL lC lH2 hp).mono fun _ _ ⟨lVA2, lVL2, lVC2, lH3, lV1, sizeV2, P, e, q⟩ => ⟨lVA2, lVL2, lVC2, lH3, lV1, sizeV2, P, e, kz _ _ q⟩
end Go.Proofs.Ytmcloipjlihhlaa.N
