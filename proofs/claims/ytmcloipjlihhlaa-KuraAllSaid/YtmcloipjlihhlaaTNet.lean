/- Functions: what is left to be shown of each, over memory and without: printed by program, tied to the loaded functions by the kernel. Conditions: none. -/
import Derived.Test.YtmcloipjlihhlaaSEnv
import Derived.Test.YtmcloipjlihhlaaYMore
namespace Go.Proofs.Ytmcloipjlihhlaa.N
open Go.Proofs.Ytmcloipjlihhlaa
open Go.X
set_option maxRecDepth 100000
set_option linter.unusedVariables false
set_option linter.unusedSimpArgs false
set_option maxHeartbeats 2000000

/-- tracery/traceryref3.May -/
def S43 (g : Int) (gA : Option Addr) (gL gC : Nat) (h : Heap) (R : Value → Heap → Prop) : Prop :=
  let hv : Heap := h.push (.cells #[.int .i64 g, .slice gA gL gC] 26)
  let K := fun (hv2 : Heap) =>
    (R (.bool false) hv2)
  cnd (decide (g < (0 : Int)))
    (K hv)
    (cnd (decide (g > (1024 : Int)))
      (K hv)
      (cnd (decide (((gL : Nat) : Int) > (3072 : Int)))
        (R (.bool false) hv)
        (∃ (Iv : List Value → Heap → Prop) (m : List Value → Heap → Nat), Iv [.int .i64 0] hv ∧ -- loop 0: ['i']
        ∀ i : Int, ∀ hv3, Iv [.int .i64 i] hv3 →
        cnd (decide (i < ((gL : Nat) : Int)))
          (∃ (Iv2 : List Value → Heap → Prop) (m2 : List Value → Heap → Nat), Iv2 [.int .i64 0] hv3 ∧ -- loop 2: ['k']
          ∀ k : Int, ∀ hv4, Iv2 [.int .i64 k] hv4 →
          cnd (decide (k < (2 : Int)))
            (∃ b o, gA = some ⟨b, o, none⟩ ∧ 0 ≤ i ∧ i < (gL : Nat) ∧ 0 ≤ k ∧ k < ((2 : Nat) : Int) ∧ ∃ x : Int, hcell hv4 b ((o + (Int.toNat i) * 2) + (Int.toNat k) * 1) = some (.int .i64 x) ∧ cnd (decide (x < (0 : Int)))
              (R (.bool false) hv4)
              (∃ b2 o2, gA = some ⟨b2, o2, none⟩ ∧ 0 ≤ i ∧ i < (gL : Nat) ∧ 0 ≤ k ∧ k < ((2 : Nat) : Int) ∧ ∃ x2 : Int, hcell hv4 b2 ((o2 + (Int.toNat i) * 2) + (Int.toNat k) * 1) = some (.int .i64 x2) ∧ cnd (decide (x2 ≥ g))
                (R (.bool false) hv4)
                (Iv2 [.int .i64 (IntKind.i64.wrap (k + (1 : Int)))] hv4 ∧ m2 [.int .i64 (IntKind.i64.wrap (k + (1 : Int)))] hv4 < m2 [.int .i64 k] hv4)))
            (Iv [.int .i64 (IntKind.i64.wrap (i + (1 : Int)))] hv4 ∧ m [.int .i64 (IntKind.i64.wrap (i + (1 : Int)))] hv4 < m [.int .i64 i] hv3))
          (R (.bool true) hv3))))
theorem calls43 {h : Heap} {R : Value → Heap → Prop} (g : Int) (gA : Option Addr) (gL gC : Nat) (H : S43 g gA gL gC h R) : CallsH Try.prog 43 #[.agg #[.int .i64 g, .slice gA gL gC]] h R := by
  have e : S43 g gA gL gC h R = FX (envX [1] 50) { loops := [(0, ⟨[1], [3], [1], []⟩), (2, ⟨[1, 3], [4], [1], []⟩)], joins := [], blocks := [], draws := [(9, ⟨20, false⟩)] } Try.f43 (Try.f43.body.getD .skip) [.agg #[.int .i64 g, .slice gA gL gC]] h R := by kernel_rfl
  exact calls_of_FX (envX_ok _ _) Try.func43 (by kernel_rfl) (by kernel_rfl) (by kernel_rfl) (e ▸ H)
/-- tracery/traceryref3.May -/
def Ok43 (g : Int) (edgesV : List (Int × Int)) (R : Bool → Prop) : Prop :=
  ∀ (h : Heap) (gA : Option Addr) (gL gC : Nat), Hp h [Ck.vw eP gA gL gC edgesV] → CallsH Try.prog 43 #[.agg #[.int .i64 g, .slice gA gL gC]] h fun v h' => ∃ (rV : Bool), Sy h [] h' [] ∧ v = .bool rV ∧ R rV
theorem Ok43.mono {g edgesV} {R R' : Bool → Prop} (H : Ok43 g edgesV R) (kz : ∀ rV, R rV → R' rV) : Ok43 g edgesV R' :=
  fun h gA gL gC hp => (H h gA gL gC hp).mono fun _ _ ⟨rV, P, e, q⟩ => ⟨rV, P, e, kz _ q⟩
def T43 (g : Int) (edgesV : List (Int × Int)) (R : Bool → Prop) : Prop :=
  ∃ Jv : Prop,
  ( cnd (decide (g < (0 : Int)))
     (Jv)
     (cnd (decide (g > (1024 : Int)))
       (Jv)
       (cnd (decide (((edgesV.length : Nat) : Int) > (3072 : Int)))
         (R false)
         (∃ (Iv : Int → Prop) (m : Int → Nat), Iv 0 ∧
         ∀ i : Int, Iv i →
         cnd (decide (i < ((edgesV.length : Nat) : Int)))
           (∃ (Iv2 : Int → Prop) (m2 : Int → Nat), Iv2 0 ∧
           ∀ k : Int, Iv2 k →
           cnd (decide (k < (2 : Int)))
             (0 ≤ i ∧ i < ((edgesV.length : Nat) : Int) ∧ 0 ≤ k ∧ k < ((2 : Nat) : Int) ∧ ∀ g_2 : (Int × Int), edgesV[(Int.toNat i)]? = some g_2 → cnd (decide ((nth2 g_2 k) < (0 : Int)))
               (R false)
               (0 ≤ k ∧ k < ((2 : Nat) : Int) ∧ cnd (decide ((nth2 g_2 k) ≥ g))
                 (R false)
                 (Iv2 (IntKind.i64.wrap (k + (1 : Int))) ∧ m2 (IntKind.i64.wrap (k + (1 : Int))) < m2 k)))
             (Iv (IntKind.i64.wrap (i + (1 : Int))) ∧ m (IntKind.i64.wrap (i + (1 : Int))) < m i))
           (R true))))) ∧
  (Jv →
  R false)
theorem ok43 {g edgesV} {R : Bool → Prop} (T : T43 g edgesV R) : Ok43 g edgesV R := by
  intro h gA gL gC H
  have Y : Sy h [] h _ := Sy.startM H rfl
  obtain rfl := Y.lenV 0 rfl
  apply calls43
  unfold S43
  unfold T43 at T
  intro hv
  have Y : Sy _ _ hv [_, _] := Y.junk _
  clear_value hv
  obtain ⟨Jv, T0, T1⟩ := T
  obtain ⟨B, hB, _⟩ := Y.cut [] [0, 1] rfl
  intro K
  have hK : ∀  (hv2 : Heap), (Sy h [] hv2 ([] ++ B) ∧ Jv) → K hv2 := by
    subst hB
    clear T0 Y
    rintro hv2 ⟨Y, T⟩
    replace T := T1 T
    have Y : Sy _ _ _ [_, _] := Y
    unfold K
    exact ⟨_, Y.pick [] rfl, rfl, T⟩
  subst hB
  replace T := T0
  clear T0 T1
  refine cnd_imp T (fun T => ?_) (fun T => ?_)
  · exact hK _ ⟨Y.pick [0, 1] rfl, T⟩
  · refine cnd_imp T (fun T => ?_) (fun T => ?_)
    · exact hK _ ⟨Y.pick [0, 1] rfl, T⟩
    · refine cnd_imp T (fun T => ?_) (fun T => ?_)
      · exact ⟨_, Y.pick [] rfl, rfl, T⟩
      · obtain ⟨Iv, m, T0, T1⟩ := T
        obtain ⟨B_2, hB_2, YB⟩ := Y.cut [] [0, 1] rfl
        obtain ⟨JJ, hJJ⟩ : ∃ JJ : Nat → List Value → Heap → Prop, JJ = (fun k_2 lz h' => ∃ (i : Int), lz = [.int .i64 i] ∧ Sy h [] h' ([] ++ B_2) ∧ Iv i ∧ m i = k_2) := ⟨_, rfl⟩
        refine ⟨fun lz h' => ∃ k_2, JJ k_2 lz h', Lm JJ, ?_, ?_⟩
        · subst hJJ hB_2
          exact ⟨_, _, rfl, YB, T0, rfl⟩
        · clear YB T0 Y
          intro i hv3 hI
          obtain ⟨k_2, hI, hm⟩ := loopIn hI
          subst hJJ hB_2
          obtain ⟨i, e, Y, T, rfl⟩ := hI
          cases e
          replace T := T1 i T
          have Y : Sy _ _ _ [_, _] := Y
          refine cnd_imp T (fun T => ?_) (fun T => ?_)
          · obtain ⟨Iv2, m2, T0, T1⟩ := T
            obtain ⟨B_3, hB_3, YB⟩ := Y.cut [] [0, 1] rfl
            obtain ⟨JJ_2, hJJ_2⟩ : ∃ JJ_2 : Nat → List Value → Heap → Prop, JJ_2 = (fun k_3 lz h' => ∃ (k : Int), lz = [.int .i64 k] ∧ Sy h [] h' ([] ++ B_3) ∧ Iv2 k ∧ m2 k = k_3) := ⟨_, rfl⟩
            refine ⟨fun lz h' => ∃ k_3, JJ_2 k_3 lz h', Lm JJ_2, ?_, ?_⟩
            · subst hJJ_2 hB_3
              exact ⟨_, _, rfl, YB, T0, rfl⟩
            · clear YB T0 Y
              intro k hv4 hI
              obtain ⟨k_3, hI, hm_2⟩ := loopIn hI
              subst hJJ_2 hB_3
              obtain ⟨k, e, Y, T, rfl⟩ := hI
              cases e
              replace T := T1 k T
              have Y : Sy _ _ _ [_, _] := Y
              refine cnd_imp T (fun T => ?_) (fun T => ?_)
              · have Y0 := Y
                have F : Fr [] hv4 hv4 := Fr.refl _ _
                obtain ⟨q, q_2, T⟩ := T
                obtain ⟨b_2, o_2, hb, hr, g_2, hx⟩ := Y0.atV 0 rfl q q_2
                refine ⟨b_2, o_2, hb, q, q_2, ?_⟩
                obtain ⟨q_5, q_6, T⟩ := T
                refine ⟨q_5, q_6, ?_⟩
                replace T := T g_2 hx
                refine ⟨_, nth2_cell (Y0.cellV 0 rfl hb (t := 0) hx rfl) (Y0.cellV 0 rfl hb (t := 1) hx rfl) (by assumption) (by assumption), ?_⟩
                refine cnd_imp T (fun T => ?_) (fun T => ?_)
                · exact ⟨_, Y.pick [] rfl, rfl, T⟩
                · refine ⟨b_2, o_2, hb, q, q_2, ?_⟩
                  obtain ⟨q_3, q_4, T⟩ := T
                  refine ⟨q_3, q_4, ?_⟩
                  refine ⟨_, nth2_cell (Y0.cellV 0 rfl hb (t := 0) hx rfl) (Y0.cellV 0 rfl hb (t := 1) hx rfl) (by assumption) (by assumption), ?_⟩
                  refine cnd_imp T (fun T => ?_) (fun T => ?_)
                  · exact ⟨_, Y.pick [] rfl, rfl, T⟩
                  · exact loopBack hm_2 ⟨_, rfl, Y.pick [0, 1] rfl, T.1, rfl⟩ T.2
              · exact loopBack hm ⟨_, rfl, Y.pick [0, 1] rfl, T.1, rfl⟩ T.2
          · exact ⟨_, Y.pick [] rfl, rfl, T⟩
/-- tracery/traceryref3.From -/
def S88 (g : Int) (gA : Option Addr) (gL gC : Nat) (hv : Int) (h : Heap) (R : Value → Heap → Prop) : Prop :=
  let hv2 : Heap := h.push (.cells #[.int .i64 g, .slice gA gL gC] 26)
  (2 : Int) ≠ 0 ∧ (2 : Int) ≠ 0 ∧ ∃ b o, gA = some ⟨b, o, none⟩ ∧ 0 ≤ (IntKind.i64.wrap (Int.tdiv hv (2 : Int))) ∧ (IntKind.i64.wrap (Int.tdiv hv (2 : Int))) < (gL : Nat) ∧ 0 ≤ (Int.tmod hv (2 : Int)) ∧ (Int.tmod hv (2 : Int)) < ((2 : Nat) : Int) ∧ ∃ x : Int, hcell hv2 b ((o + (Int.toNat (IntKind.i64.wrap (Int.tdiv hv (2 : Int)))) * 2) + (Int.toNat (Int.tmod hv (2 : Int))) * 1) = some (.int .i64 x) ∧ R (.int .i64 x) hv2
theorem calls88 {h : Heap} {R : Value → Heap → Prop} (g : Int) (gA : Option Addr) (gL gC : Nat) (hv : Int) (H : S88 g gA gL gC hv h R) : CallsH Try.prog 88 #[.agg #[.int .i64 g, .slice gA gL gC], .int .i64 hv] h R := by
  have e : S88 g gA gL gC hv h R = FX (envX [2] 14) { loops := [], joins := [], blocks := [], draws := [] } Try.f88 (Try.f88.body.getD .skip) [.agg #[.int .i64 g, .slice gA gL gC], .int .i64 hv] h R := by kernel_rfl
  exact calls_of_FX (envX_ok _ _) Try.func88 (by kernel_rfl) (by kernel_rfl) (by kernel_rfl) (e ▸ H)
/-- tracery/traceryref3.From -/
def Ok88 (g : Int) (edgesV : List (Int × Int)) (hv : Int) (R : Int → Prop) : Prop :=
  ∀ (h : Heap) (gA : Option Addr) (gL gC : Nat), Hp h [Ck.vw eP gA gL gC edgesV] → CallsH Try.prog 88 #[.agg #[.int .i64 g, .slice gA gL gC], .int .i64 hv] h fun v h' => ∃ (rV : Int), Sy h [] h' [] ∧ v = .int .i64 rV ∧ R rV
theorem Ok88.mono {g edgesV hv} {R R' : Int → Prop} (H : Ok88 g edgesV hv R) (kz : ∀ rV, R rV → R' rV) : Ok88 g edgesV hv R' :=
  fun h gA gL gC hp => (H h gA gL gC hp).mono fun _ _ ⟨rV, P, e, q⟩ => ⟨rV, P, e, kz _ q⟩
def T88 (g : Int) (edgesV : List (Int × Int)) (hv : Int) (R : Int → Prop) : Prop :=
  (2 : Int) ≠ 0 ∧ (2 : Int) ≠ 0 ∧ 0 ≤ (IntKind.i64.wrap (Int.tdiv hv (2 : Int))) ∧ (IntKind.i64.wrap (Int.tdiv hv (2 : Int))) < ((edgesV.length : Nat) : Int) ∧ 0 ≤ (Int.tmod hv (2 : Int)) ∧ (Int.tmod hv (2 : Int)) < ((2 : Nat) : Int) ∧ ∀ g_2 : (Int × Int), edgesV[(Int.toNat (IntKind.i64.wrap (Int.tdiv hv (2 : Int))))]? = some g_2 → R (nth2 g_2 (Int.tmod hv (2 : Int)))
theorem ok88 {g edgesV hv} {R : Int → Prop} (T : T88 g edgesV hv R) : Ok88 g edgesV hv R := by
  intro h gA gL gC H
  have Y : Sy h [] h _ := Sy.startM H rfl
  obtain rfl := Y.lenV 0 rfl
  apply calls88
  unfold S88
  unfold T88 at T
  intro hv2
  have Y : Sy _ _ hv2 [_, _] := Y.junk _
  clear_value hv2
  obtain ⟨q_6, T⟩ := T
  refine ⟨q_6, ?_⟩
  obtain ⟨q_5, T⟩ := T
  refine ⟨q_5, ?_⟩
  obtain ⟨q, q_2, T⟩ := T
  obtain ⟨b_2, o_2, hb, hr, g_2, hx⟩ := Y.atV 0 rfl q q_2
  refine ⟨b_2, o_2, hb, q, q_2, ?_⟩
  obtain ⟨q_3, q_4, T⟩ := T
  refine ⟨q_3, q_4, ?_⟩
  replace T := T g_2 hx
  refine ⟨_, nth2_cell (Y.cellV 0 rfl hb (t := 0) hx rfl) (Y.cellV 0 rfl hb (t := 1) hx rfl) (by assumption) (by assumption), ?_⟩
  exact ⟨_, Y.pick [] rfl, rfl, T⟩
/-- tracery/traceryref3.To -/
def S55 (g : Int) (gA : Option Addr) (gL gC : Nat) (hv : Int) (h : Heap) (R : Value → Heap → Prop) : Prop :=
  let hv2 : Heap := h.push (.cells #[.int .i64 g, .slice gA gL gC] 26)
  (2 : Int) ≠ 0 ∧ (2 : Int) ≠ 0 ∧ ∃ b o, gA = some ⟨b, o, none⟩ ∧ 0 ≤ (IntKind.i64.wrap (Int.tdiv hv (2 : Int))) ∧ (IntKind.i64.wrap (Int.tdiv hv (2 : Int))) < (gL : Nat) ∧ 0 ≤ (IntKind.i64.wrap ((1 : Int) - (Int.tmod hv (2 : Int)))) ∧ (IntKind.i64.wrap ((1 : Int) - (Int.tmod hv (2 : Int)))) < ((2 : Nat) : Int) ∧ ∃ x : Int, hcell hv2 b ((o + (Int.toNat (IntKind.i64.wrap (Int.tdiv hv (2 : Int)))) * 2) + (Int.toNat (IntKind.i64.wrap ((1 : Int) - (Int.tmod hv (2 : Int))))) * 1) = some (.int .i64 x) ∧ R (.int .i64 x) hv2
theorem calls55 {h : Heap} {R : Value → Heap → Prop} (g : Int) (gA : Option Addr) (gL gC : Nat) (hv : Int) (H : S55 g gA gL gC hv h R) : CallsH Try.prog 55 #[.agg #[.int .i64 g, .slice gA gL gC], .int .i64 hv] h R := by
  have e : S55 g gA gL gC hv h R = FX (envX [2] 15) { loops := [], joins := [], blocks := [], draws := [] } Try.f55 (Try.f55.body.getD .skip) [.agg #[.int .i64 g, .slice gA gL gC], .int .i64 hv] h R := by kernel_rfl
  exact calls_of_FX (envX_ok _ _) Try.func55 (by kernel_rfl) (by kernel_rfl) (by kernel_rfl) (e ▸ H)
/-- tracery/traceryref3.To -/
def Ok55 (g : Int) (edgesV : List (Int × Int)) (hv : Int) (R : Int → Prop) : Prop :=
  ∀ (h : Heap) (gA : Option Addr) (gL gC : Nat), Hp h [Ck.vw eP gA gL gC edgesV] → CallsH Try.prog 55 #[.agg #[.int .i64 g, .slice gA gL gC], .int .i64 hv] h fun v h' => ∃ (rV : Int), Sy h [] h' [] ∧ v = .int .i64 rV ∧ R rV
theorem Ok55.mono {g edgesV hv} {R R' : Int → Prop} (H : Ok55 g edgesV hv R) (kz : ∀ rV, R rV → R' rV) : Ok55 g edgesV hv R' :=
  fun h gA gL gC hp => (H h gA gL gC hp).mono fun _ _ ⟨rV, P, e, q⟩ => ⟨rV, P, e, kz _ q⟩
def T55 (g : Int) (edgesV : List (Int × Int)) (hv : Int) (R : Int → Prop) : Prop :=
  (2 : Int) ≠ 0 ∧ (2 : Int) ≠ 0 ∧ 0 ≤ (IntKind.i64.wrap (Int.tdiv hv (2 : Int))) ∧ (IntKind.i64.wrap (Int.tdiv hv (2 : Int))) < ((edgesV.length : Nat) : Int) ∧ 0 ≤ (IntKind.i64.wrap ((1 : Int) - (Int.tmod hv (2 : Int)))) ∧ (IntKind.i64.wrap ((1 : Int) - (Int.tmod hv (2 : Int)))) < ((2 : Nat) : Int) ∧ ∀ g_2 : (Int × Int), edgesV[(Int.toNat (IntKind.i64.wrap (Int.tdiv hv (2 : Int))))]? = some g_2 → R (nth2 g_2 (IntKind.i64.wrap ((1 : Int) - (Int.tmod hv (2 : Int)))))
theorem ok55 {g edgesV hv} {R : Int → Prop} (T : T55 g edgesV hv R) : Ok55 g edgesV hv R := by
  intro h gA gL gC H
  have Y : Sy h [] h _ := Sy.startM H rfl
  obtain rfl := Y.lenV 0 rfl
  apply calls55
  unfold S55
  unfold T55 at T
  intro hv2
  have Y : Sy _ _ hv2 [_, _] := Y.junk _
  clear_value hv2
  obtain ⟨q_6, T⟩ := T
  refine ⟨q_6, ?_⟩
  obtain ⟨q_5, T⟩ := T
  refine ⟨q_5, ?_⟩
  obtain ⟨q, q_2, T⟩ := T
  obtain ⟨b_2, o_2, hb, hr, g_2, hx⟩ := Y.atV 0 rfl q q_2
  refine ⟨b_2, o_2, hb, q, q_2, ?_⟩
  obtain ⟨q_3, q_4, T⟩ := T
  refine ⟨q_3, q_4, ?_⟩
  replace T := T g_2 hx
  refine ⟨_, nth2_cell (Y.cellV 0 rfl hb (t := 0) hx rfl) (Y.cellV 0 rfl hb (t := 1) hx rfl) (by assumption) (by assumption), ?_⟩
  exact ⟨_, Y.pick [] rfl, rfl, T⟩
/-- tracery/traceryref3.Same -/
def S40 (a : Int) (aA : Option Addr) (aL aC : Nat) (b : Int) (bA : Option Addr) (bL bC : Nat) (h : Heap) (R : Value → Heap → Prop) : Prop :=
  let hv : Heap := h.push (.cells #[.int .i64 a, .slice aA aL aC] 26)
  let hv2 : Heap := hv.push (.cells #[.int .i64 b, .slice bA bL bC] 26)
  cnd (a != b)
    (R (.bool false) hv2)
    (cnd (((aL : Nat) : Int) != ((bL : Nat) : Int))
      (R (.bool false) hv2)
      (∃ (Iv : List Value → Heap → Prop) (m : List Value → Heap → Nat), Iv [.int .i64 0] hv2 ∧ -- loop 0: ['i']
      ∀ i : Int, ∀ hv3, Iv [.int .i64 i] hv3 →
      cnd (decide (i < ((aL : Nat) : Int)))
        (∃ b2 o, aA = some ⟨b2, o, none⟩ ∧ 0 ≤ i ∧ i < (aL : Nat) ∧ ∃ x : Int, hcell hv3 b2 (o + (Int.toNat i) * 2) = some (.int .i64 x) ∧ ∃ x2 : Int, hcell hv3 b2 ((o + (Int.toNat i) * 2) + 1) = some (.int .i64 x2) ∧ ∃ b3 o2, bA = some ⟨b3, o2, none⟩ ∧ 0 ≤ i ∧ i < (bL : Nat) ∧ ∃ x3 : Int, hcell hv3 b3 (o2 + (Int.toNat i) * 2) = some (.int .i64 x3) ∧ ∃ x4 : Int, hcell hv3 b3 ((o2 + (Int.toNat i) * 2) + 1) = some (.int .i64 x4) ∧ cnd (!((x == x3) && (x2 == x4)))
          (R (.bool false) hv3)
          (Iv [.int .i64 (IntKind.i64.wrap (i + (1 : Int)))] hv3 ∧ m [.int .i64 (IntKind.i64.wrap (i + (1 : Int)))] hv3 < m [.int .i64 i] hv3))
        (R (.bool true) hv3)))
theorem calls40 {h : Heap} {R : Value → Heap → Prop} (a : Int) (aA : Option Addr) (aL aC : Nat) (b : Int) (bA : Option Addr) (bL bC : Nat) (H : S40 a aA aL aC b bA bL bC h R) : CallsH Try.prog 40 #[.agg #[.int .i64 a, .slice aA aL aC], .agg #[.int .i64 b, .slice bA bL bC]] h R := by
  have e : S40 a aA aL aC b bA bL bC h R = FX (envX [2, 3] 38) { loops := [(0, ⟨[2, 3], [5], [2, 3], []⟩)], joins := [], blocks := [], draws := [(6, ⟨11, false⟩)] } Try.f40 (Try.f40.body.getD .skip) [.agg #[.int .i64 a, .slice aA aL aC], .agg #[.int .i64 b, .slice bA bL bC]] h R := by kernel_rfl
  exact calls_of_FX (envX_ok _ _) Try.func40 (by kernel_rfl) (by kernel_rfl) (by kernel_rfl) (e ▸ H)
/-- tracery/traceryref3.Same -/
def Ok40 (a : Int) (edgesV : List (Int × Int)) (b : Int) (edgesV2 : List (Int × Int)) (R : Bool → Prop) : Prop :=
  ∀ (h : Heap) (aA : Option Addr) (aL aC : Nat) (bA : Option Addr) (bL bC : Nat), Hp h [Ck.vw eP aA aL aC edgesV, Ck.vw eP bA bL bC edgesV2] → CallsH Try.prog 40 #[.agg #[.int .i64 a, .slice aA aL aC], .agg #[.int .i64 b, .slice bA bL bC]] h fun v h' => ∃ (rV : Bool), Sy h [] h' [] ∧ v = .bool rV ∧ R rV
theorem Ok40.mono {a edgesV b edgesV2} {R R' : Bool → Prop} (H : Ok40 a edgesV b edgesV2 R) (kz : ∀ rV, R rV → R' rV) : Ok40 a edgesV b edgesV2 R' :=
  fun h aA aL aC bA bL bC hp => (H h aA aL aC bA bL bC hp).mono fun _ _ ⟨rV, P, e, q⟩ => ⟨rV, P, e, kz _ q⟩
def T40 (a : Int) (edgesV : List (Int × Int)) (b : Int) (edgesV2 : List (Int × Int)) (R : Bool → Prop) : Prop :=
  cnd (a != b)
    (R false)
    (cnd (((edgesV.length : Nat) : Int) != ((edgesV2.length : Nat) : Int))
      (R false)
      (∃ (Iv : Int → Prop) (m : Int → Nat), Iv 0 ∧
      ∀ i : Int, Iv i →
      cnd (decide (i < ((edgesV.length : Nat) : Int)))
        (0 ≤ i ∧ i < ((edgesV.length : Nat) : Int) ∧ ∀ a_2 : (Int × Int), edgesV[(Int.toNat i)]? = some a_2 → 0 ≤ i ∧ i < ((edgesV2.length : Nat) : Int) ∧ ∀ b_4 : (Int × Int), edgesV2[(Int.toNat i)]? = some b_4 → cnd (!((a_2.1 == b_4.1) && (a_2.2 == b_4.2)))
          (R false)
          (Iv (IntKind.i64.wrap (i + (1 : Int))) ∧ m (IntKind.i64.wrap (i + (1 : Int))) < m i))
        (R true)))
theorem ok40 {a edgesV b edgesV2} {R : Bool → Prop} (T : T40 a edgesV b edgesV2 R) : Ok40 a edgesV b edgesV2 R := by
  intro h aA aL aC bA bL bC H
  have Y : Sy h [] h _ := Sy.startM H rfl
  obtain rfl := Y.lenV 0 rfl
  obtain rfl := Y.lenV 1 rfl
  apply calls40
  unfold S40
  unfold T40 at T
  intro hv
  have Y : Sy _ _ hv [_, _, _] := Y.junk _
  clear_value hv
  intro hv2
  have Y : Sy _ _ hv2 [_, _, _, _] := Y.junk _
  clear_value hv2
  refine cnd_imp T (fun T => ?_) (fun T => ?_)
  · exact ⟨_, Y.pick [] rfl, rfl, T⟩
  · refine cnd_imp T (fun T => ?_) (fun T => ?_)
    · exact ⟨_, Y.pick [] rfl, rfl, T⟩
    · obtain ⟨Iv, m, T0, T1⟩ := T
      obtain ⟨B, hB, YB⟩ := Y.cut [] [0, 1, 2, 3] rfl
      obtain ⟨JJ, hJJ⟩ : ∃ JJ : Nat → List Value → Heap → Prop, JJ = (fun k lz h' => ∃ (i : Int), lz = [.int .i64 i] ∧ Sy h [] h' ([] ++ B) ∧ Iv i ∧ m i = k) := ⟨_, rfl⟩
      refine ⟨fun lz h' => ∃ k, JJ k lz h', Lm JJ, ?_, ?_⟩
      · subst hJJ hB
        exact ⟨_, _, rfl, YB, T0, rfl⟩
      · clear YB T0 Y
        intro i hv3 hI
        obtain ⟨k, hI, hm⟩ := loopIn hI
        subst hJJ hB
        obtain ⟨i, e, Y, T, rfl⟩ := hI
        cases e
        replace T := T1 i T
        have Y : Sy _ _ _ [_, _, _, _] := Y
        refine cnd_imp T (fun T => ?_) (fun T => ?_)
        · have Y0 := Y
          have F : Fr [] hv3 hv3 := Fr.refl _ _
          obtain ⟨q, q_2, T⟩ := T
          obtain ⟨b_2, o_2, hb, hr, a_2, hx⟩ := Y0.atV 0 rfl q q_2
          refine ⟨b_2, o_2, hb, q, q_2, ?_⟩
          replace T := T a_2 hx
          refine ⟨_, Y0.cellV 0 rfl hb (t := 0) hx rfl, ?_⟩
          refine ⟨_, Y0.cellV 0 rfl hb (t := 1) hx rfl, ?_⟩
          obtain ⟨q_3, q_4, T⟩ := T
          obtain ⟨b_3, o_3, hb_2, hr_2, b_4, hx_2⟩ := Y0.atV 1 rfl q_3 q_4
          refine ⟨b_3, o_3, hb_2, q_3, q_4, ?_⟩
          replace T := T b_4 hx_2
          refine ⟨_, Y0.cellV 1 rfl hb_2 (t := 0) hx_2 rfl, ?_⟩
          refine ⟨_, Y0.cellV 1 rfl hb_2 (t := 1) hx_2 rfl, ?_⟩
          refine cnd_imp T (fun T => ?_) (fun T => ?_)
          · exact ⟨_, Y.pick [] rfl, rfl, T⟩
          · exact loopBack hm ⟨_, rfl, Y.pick [0, 1, 2, 3] rfl, T.1, rfl⟩ T.2
        · exact ⟨_, Y.pick [] rfl, rfl, T⟩
/-- tracery/traceryref5.too -/
def S128 (nsA : Option Addr) (nsL nsC : Nat) (h : Heap) (R : Value → Heap → Prop) : Prop :=
  ∃ (Iv : List Value → Heap → Prop) (m : List Value → Heap → Nat), Iv [.int .i64 0] h ∧ -- loop 0: ['i']
  ∀ i : Int, ∀ hv, Iv [.int .i64 i] hv →
  cnd (decide (i < ((nsL : Nat) : Int)))
    (∃ b o, nsA = some ⟨b, o, none⟩ ∧ 0 ≤ i ∧ i < (nsL : Nat) ∧ ∃ x : Int, hcell hv b (o + (Int.toNat i) * 1) = some (.int .i64 x) ∧ cnd (decide (x > (4096 : Int)))
      (R (.bool true) hv)
      (Iv [.int .i64 (IntKind.i64.wrap (i + (1 : Int)))] hv ∧ m [.int .i64 (IntKind.i64.wrap (i + (1 : Int)))] hv < m [.int .i64 i] hv))
    (R (.bool false) hv)
theorem calls128 {h : Heap} {R : Value → Heap → Prop} (nsA : Option Addr) (nsL nsC : Nat) (H : S128 nsA nsL nsC h R) : CallsH Try.prog 128 #[.slice nsA nsL nsC] h R := by
  have e : S128 nsA nsL nsC h R = FX (envX [] 15) { loops := [(0, ⟨[0], [3], [], []⟩)], joins := [], blocks := [], draws := [] } Try.f128 (Try.f128.body.getD .skip) [.slice nsA nsL nsC] h R := by kernel_rfl
  exact calls_of_FX (envX_ok _ _) Try.func128 (by kernel_rfl) (by kernel_rfl) (by kernel_rfl) (e ▸ H)
/-- tracery/traceryref5.too -/
def Ok128 (nsV : List Int) (R : Bool → Prop) : Prop :=
  ∀ (h : Heap) (nsA : Option Addr) (nsL nsC : Nat), Hp h [Ck.vw eI nsA nsL nsC nsV] → CallsH Try.prog 128 #[.slice nsA nsL nsC] h fun v h' => ∃ (rV : Bool), Sy h [] h' [] ∧ v = .bool rV ∧ R rV
theorem Ok128.mono {nsV} {R R' : Bool → Prop} (H : Ok128 nsV R) (kz : ∀ rV, R rV → R' rV) : Ok128 nsV R' :=
  fun h nsA nsL nsC hp => (H h nsA nsL nsC hp).mono fun _ _ ⟨rV, P, e, q⟩ => ⟨rV, P, e, kz _ q⟩
def T128 (nsV : List Int) (R : Bool → Prop) : Prop :=
  ∃ (Iv : Int → Prop) (m : Int → Nat), Iv 0 ∧
  ∀ i : Int, Iv i →
  cnd (decide (i < ((nsV.length : Nat) : Int)))
    (0 ≤ i ∧ i < ((nsV.length : Nat) : Int) ∧ ∀ ns : Int, nsV[(Int.toNat i)]? = some ns → cnd (decide (ns > (4096 : Int)))
      (R true)
      (Iv (IntKind.i64.wrap (i + (1 : Int))) ∧ m (IntKind.i64.wrap (i + (1 : Int))) < m i))
    (R false)
theorem ok128 {nsV} {R : Bool → Prop} (T : T128 nsV R) : Ok128 nsV R := by
  intro h nsA nsL nsC H
  have Y : Sy h [] h _ := Sy.startM H rfl
  obtain rfl := Y.lenV 0 rfl
  apply calls128
  unfold S128
  unfold T128 at T
  obtain ⟨Iv, m, T0, T1⟩ := T
  obtain ⟨B, hB, YB⟩ := Y.cut [] [0] rfl
  obtain ⟨JJ, hJJ⟩ : ∃ JJ : Nat → List Value → Heap → Prop, JJ = (fun k lz h' => ∃ (i : Int), lz = [.int .i64 i] ∧ Sy h [] h' ([] ++ B) ∧ Iv i ∧ m i = k) := ⟨_, rfl⟩
  refine ⟨fun lz h' => ∃ k, JJ k lz h', Lm JJ, ?_, ?_⟩
  · subst hJJ hB
    exact ⟨_, _, rfl, YB, T0, rfl⟩
  · clear YB T0 Y
    intro i hv hI
    obtain ⟨k, hI, hm⟩ := loopIn hI
    subst hJJ hB
    obtain ⟨i, e, Y, T, rfl⟩ := hI
    cases e
    replace T := T1 i T
    have Y : Sy _ _ _ [_] := Y
    refine cnd_imp T (fun T => ?_) (fun T => ?_)
    · obtain ⟨q, q_2, T⟩ := T
      obtain ⟨b_2, o_2, hb, hr, ns, hx⟩ := Y.atV 0 rfl q q_2
      refine ⟨b_2, o_2, hb, q, q_2, ?_⟩
      replace T := T ns hx
      refine ⟨_, Y.cellV 0 rfl hb (t := 0) hx rfl, ?_⟩
      refine cnd_imp T (fun T => ?_) (fun T => ?_)
      · exact ⟨_, Y.pick [] rfl, rfl, T⟩
      · exact loopBack hm ⟨_, rfl, Y.pick [0] rfl, T.1, rfl⟩ T.2
    · exact ⟨_, Y.pick [] rfl, rfl, T⟩
/-- tracery/tracerylaw3.Room -/
def S139 (n : Int) (all : Int) (h : Heap) (R : Value → Heap → Prop) : Prop :=
  R (.int .i64 (if (IntKind.i64.wrap (n + (2000 : Int))) < all then (IntKind.i64.wrap (n + (2000 : Int))) else all)) h
theorem calls139 {h : Heap} {R : Value → Heap → Prop} (n : Int) (all : Int) (H : S139 n all h R) : CallsH Try.prog 139 #[.int .i64 n, .int .i64 all] h R := by
  have e : S139 n all h R = FX (envX [] 9) { loops := [], joins := [], blocks := [], draws := [] } Try.f139 (Try.f139.body.getD .skip) [.int .i64 n, .int .i64 all] h R := by kernel_rfl
  exact calls_of_FX (envX_ok _ _) Try.func139 (by kernel_rfl) (by kernel_rfl) (by kernel_rfl) (e ▸ H)
/-- tracery/tracerylaw3.Room -/
def Ok139 (n : Int) (all : Int) (R : Int → Prop) : Prop :=
  ∀ (h : Heap), Hp h [] → CallsH Try.prog 139 #[.int .i64 n, .int .i64 all] h fun v h' => ∃ (rV : Int), Sy h [] h' [] ∧ v = .int .i64 rV ∧ R rV
theorem Ok139.mono {n all} {R R' : Int → Prop} (H : Ok139 n all R) (kz : ∀ rV, R rV → R' rV) : Ok139 n all R' :=
  fun h  hp => (H h  hp).mono fun _ _ ⟨rV, P, e, q⟩ => ⟨rV, P, e, kz _ q⟩
def T139 (n : Int) (all : Int) (R : Int → Prop) : Prop :=
  R (if (IntKind.i64.wrap (n + (2000 : Int))) < all then (IntKind.i64.wrap (n + (2000 : Int))) else all)
theorem ok139 {n all} {R : Int → Prop} (T : T139 n all R) : Ok139 n all R := by
  intro h  H
  have Y : Sy h [] h _ := Sy.startM H rfl
  apply calls139
  unfold S139
  unfold T139 at T
  exact ⟨_, Y.pick [] rfl, rfl, T⟩
/-- tracery/tracerylaw3.Spoil -/
def S41 (g : Int) (gA : Option Addr) (gL gC : Nat) (h : Heap) (R : Value → Heap → Prop) : Prop :=
  let hv : Heap := h.push (.cells #[.int .i64 g, .slice gA gL gC] 26)
  callX Try.prog 139 #[.int .i64 ((gL : Nat) : Int), .int .i64 ((gC : Nat) : Int)] hv [h.size] fun v hv2 =>
  ∃ r : Int, v = .int .i64 r ∧
  ∃ (Iv : List Value → Heap → Prop) (m : List Value → Heap → Nat), Iv [.int .i64 g, .slice gA gL gC] hv2 ∧ -- loop 0: []
  ∀ c0 : Int, ∀ (c1A : Option Addr) (c1L c1C : Nat), ∀ hv3, Iv [.int .i64 c0, .slice c1A c1L c1C] hv3 →
  cnd (decide (((c1L : Nat) : Int) < r))
    (let hv4 : Heap := hv3.push (.cells #[.int .i64 0, .int .i64 0] 35)
    ∃ old, Ownd hv4 35 2 c1A c1L c1C old ∧ (∀ b ∈ ([hv3.size, h.size] : List Nat), b ∉ blkOf c1A) ∧ (c1L + 1) * 16 ≤ 140737488355328 ∧ (c1L + 1) ≤ maxLen ∧
    ∀ sA sC hv5, Ownd hv5 35 2 sA (c1L + 1) sC (old ++ [.int .i64 0, .int .i64 0]) → Fr (blkOf c1A) hv4 hv5 → ((sA = c1A ∧ sC = c1C) ∨ ∃ g, sA = some ⟨g, 0, none⟩ ∧ hv4.size ≤ g) → (c1C < (c1L + 1) → Fr [] hv4 hv5) →
    let hv6 : Heap := hset hv5 h.size 1 (.slice sA (c1L + 1) sC)
    Iv [.int .i64 c0, .slice sA (c1L + 1) sC] hv6 ∧ m [.int .i64 c0, .slice sA (c1L + 1) sC] hv6 < m [.int .i64 c0, .slice c1A c1L c1C] hv3)
    (∃ (Iv2 : List Value → Heap → Prop) (m2 : List Value → Heap → Nat), Iv2 [.int .i64 0] hv3 ∧ -- loop 2: ['i']
    ∀ i : Int, ∀ hv7, Iv2 [.int .i64 i] hv7 →
    cnd (decide (i < ((c1L : Nat) : Int)))
      (∃ b o, c1A = some ⟨b, o, none⟩ ∧ 0 ≤ i ∧ i < (c1L : Nat) ∧ b ≠ h.size ∧ (∃ u, hcell hv7 b (o + (Int.toNat i) * 2) = some u) ∧ hfree hv7 b (o + (Int.toNat i) * 2) = true ∧ (∃ u, hcell hv7 b ((o + (Int.toNat i) * 2) + 1) = some u) ∧ hfree hv7 b ((o + (Int.toNat i) * 2) + 1) = true ∧ let hv8 : Heap := hset (hset hv7 b (o + (Int.toNat i) * 2) (.int .i64 (-9))) b ((o + (Int.toNat i) * 2) + 1) (.int .i64 (-9))
      Iv2 [.int .i64 (IntKind.i64.wrap (i + (1 : Int)))] hv8 ∧ m2 [.int .i64 (IntKind.i64.wrap (i + (1 : Int)))] hv8 < m2 [.int .i64 i] hv7)
      (R (.tuple #[]) hv7))
theorem calls41 {h : Heap} {R : Value → Heap → Prop} (g : Int) (gA : Option Addr) (gL gC : Nat) (H : S41 g gA gL gC h R) : CallsH Try.prog 41 #[.agg #[.int .i64 g, .slice gA gL gC]] h R := by
  have e : S41 g gA gL gC h R = FX (envX [1, 19] 34) { loops := [(0, ⟨[1, 2], [], [], [1]⟩), (2, ⟨[1], [3], [1], []⟩)], joins := [], blocks := [], draws := [] } Try.f41 (Try.f41.body.getD .skip) [.agg #[.int .i64 g, .slice gA gL gC]] h R := by kernel_rfl
  exact calls_of_FX (envX_ok _ _) Try.func41 (by kernel_rfl) (by kernel_rfl) (by kernel_rfl) (e ▸ H)
/-- tracery/tracerylaw3.Spoil -/
def Ok41 (g : Int) (edgesV : List (Int × Int)) (R : Prop) : Prop :=
  ∀ (h : Heap) (gA : Option Addr) (gL gC : Nat), Hp h [Ck.sl eP 35 gA gL gC edgesV] → CallsH Try.prog 41 #[.agg #[.int .i64 g, .slice gA gL gC]] h fun v h' => Sy h (owns [Ck.sl eP 35 gA gL gC edgesV]) h' [] ∧ v = .tuple #[] ∧ R
def T41 (g : Int) (edgesV : List (Int × Int)) (R : Prop) : Prop :=
  ∀ cap : Nat, edgesV.length ≤ cap → Ok139 ((edgesV.length : Nat) : Int) ((cap : Nat) : Int) (fun r =>
  ∃ (Iv : Int → List (Int × Int) → Prop) (m : Int → List (Int × Int) → Nat), Iv g edgesV ∧
  ∀ c0 : Int, ∀ c1 : List (Int × Int), Iv c0 c1 →
  cnd (decide (((c1.length : Nat) : Int) < r))
    ((c1.length + 1) < 1000000000000 ∧ Iv c0 (c1 ++ [(0, 0)]) ∧ m c0 (c1 ++ [(0, 0)]) < m c0 c1)
    (∃ (Iv2 : Int → List (Int × Int) → Prop) (m2 : Int → List (Int × Int) → Nat), Iv2 0 c1 ∧
    ∀ i : Int, ∀ c1_2 : List (Int × Int), Iv2 i c1_2 →
    cnd (decide (i < ((c1.length : Nat) : Int)))
      (0 ≤ i ∧ i < ((c1.length : Nat) : Int) ∧ Iv2 (IntKind.i64.wrap (i + (1 : Int))) (c1_2.set (Int.toNat i) ((-9), (-9))) ∧ m2 (IntKind.i64.wrap (i + (1 : Int))) (c1_2.set (Int.toNat i) ((-9), (-9))) < m2 i c1_2)
      (R)))
theorem ok41 {g edgesV} {R : Prop} (T : T41 g edgesV R) : Ok41 g edgesV R := by
  intro h gA gL gC H
  have Y : Sy h (owns [Ck.sl eP 35 gA gL gC edgesV]) h _ := Sy.startM H rfl
  obtain rfl := Y.lenS 0 rfl
  apply calls41
  unfold S41
  unfold T41 at T
  intro hv
  have Y : Sy _ _ hv [_, _] := Y.junk _
  clear_value hv
  replace T := T _ (Y.capS 0 rfl).1
  refine callX_sy (T _ (Hp.nil _)) (fun _ _ ⟨_, p, _⟩ => p.fr) (allc (fun h => by cases h) alln) ?_
  rintro v hv2 ⟨r, PP, rfl, T⟩
  have Y : Sy _ _ hv2 [_, _] := Y.gr PP.fr
  clear PP
  refine ⟨r, rfl, ?_⟩
  obtain ⟨Iv, m, T0, T1⟩ := T
  obtain ⟨B, hB, YB⟩ := Y.cut [0] [1] rfl
  obtain ⟨JJ, hJJ⟩ : ∃ JJ : Nat → List Value → Heap → Prop, JJ = (fun k lz h' => ∃ (c0 : Int) (c1A : Option Addr) (c1L c1C : Nat) (c1 : List (Int × Int)), lz = [.int .i64 c0, .slice c1A c1L c1C] ∧ Sy h (owns [Ck.sl eP 35 gA edgesV.length gC edgesV]) h' ([Ck.sl eP 35 c1A c1L c1C c1] ++ B) ∧ Iv c0 c1 ∧ m c0 c1 = k) := ⟨_, rfl⟩
  refine ⟨fun lz h' => ∃ k, JJ k lz h', Lm JJ, ?_, ?_⟩
  · subst hJJ hB
    exact ⟨_, _, _, _, _, _, rfl, YB, T0, rfl⟩
  · clear YB T0 Y
    intro c0 c1A c1L c1C hv3 hI
    obtain ⟨k, hI, hm⟩ := loopIn hI
    subst hJJ hB
    obtain ⟨c0, c1A, c1L, c1C, c1, e, Y, T, rfl⟩ := hI
    cases e
    obtain rfl := Y.lenS 0 rfl
    replace T := T1 c0 c1 T
    have Y : Sy _ _ _ [_, _] := Y
    refine cnd_imp T (fun T => ?_) (fun T => ?_)
    · intro hv4
      have Y : Sy _ _ hv4 [_, _, _] := Y.junk _
      clear_value hv4
      obtain ⟨q, T⟩ := T
      refine ⟨_, Y.ownS 0 rfl, (allc (Y.nJ 0 2 rfl rfl rfl) (allc (Y.nJ 0 1 rfl rfl rfl) alln)), by first | exact appB q (by decide) | omega, by first | exact appM q | (simp [maxLen]; omega), ?_⟩
      intro sA sC hv5 ow fA gA gB
      have Y : Sy _ _ hv5 [_, _, _] := Y.appS 0 rfl ([(0, 0)] : List (Int × Int)) ow fA gA rfl rfl
      intro hv6
      have Y : Sy _ _ hv6 [_, _, _] := (Y.stJ 1 rfl _ _)
      clear_value hv6
      exact loopBack hm ⟨_, _, _, _, _, rfl, Y.pick [0, 1] rfl, T.1, rfl⟩ T.2
    · obtain ⟨Iv2, m2, T0, T1⟩ := T
      obtain ⟨B_2, hB_2, YB⟩ := Y.cut [0] [1] rfl
      obtain ⟨F, hF⟩ := Y.fnS (k := 0) rfl
      obtain ⟨JJ_2, hJJ_2⟩ : ∃ JJ_2 : Nat → List Value → Heap → Prop, JJ_2 = (fun k_2 lz h' => ∃ (i : Int) (c1_2 : List (Int × Int)), lz = [.int .i64 i] ∧ Sy h (owns [Ck.sl eP 35 gA edgesV.length gC edgesV]) h' ([F c1_2] ++ B_2) ∧ Iv2 i c1_2 ∧ m2 i c1_2 = k_2) := ⟨_, rfl⟩
      refine ⟨fun lz h' => ∃ k_2, JJ_2 k_2 lz h', Lm JJ_2, ?_, ?_⟩
      · subst hJJ_2 hB_2 hF
        exact ⟨_, _, _, rfl, YB, T0, rfl⟩
      · clear YB T0 Y
        intro i hv7 hI
        obtain ⟨k_2, hI, hm_2⟩ := loopIn hI
        subst hJJ_2 hB_2 hF
        obtain ⟨i, c1_2, e, Y, T, rfl⟩ := hI
        cases e
        replace T := T1 i c1_2 T
        have Y : Sy _ _ _ [_, _] := Y
        refine cnd_imp T (fun T => ?_) (fun T => ?_)
        · obtain ⟨q_2, q_3, T⟩ := T
          obtain ⟨b_2, hb, ho, c, hx⟩ := Y.atS 0 rfl q_2 q_3
          refine ⟨b_2, 0, hb, q_2, q_3, ?_⟩
          refine ⟨(Y.neJ 0 1 rfl rfl rfl ho), Y.cellEx 0 rfl hb (t := 0) (by omega) (by decide), Y.freeS 0 rfl hb _, Y.cellEx 0 rfl hb (t := 1) (by omega) (by decide), Y.freeS 0 rfl hb _, ?_⟩
          intro hv8
          have Y : Sy _ _ hv8 [_, _] := Y.st2 0 rfl hb ((-9), (-9)) (by omega) rfl (fun y => ⟨((-9), y.2), rfl⟩) rfl
          clear_value hv8
          exact loopBack hm_2 ⟨_, _, rfl, Y.pick [0, 1] rfl, T.1, rfl⟩ T.2
        · exact ⟨Y.pick [] rfl, rfl, T⟩
end Go.Proofs.Ytmcloipjlihhlaa.N
