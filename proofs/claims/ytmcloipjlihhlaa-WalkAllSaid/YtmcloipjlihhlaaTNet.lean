/- Functions: what is left to be shown of each, over memory and without: printed by program, tied to the loaded functions by the kernel. Conditions: none. -/
import Derived.Test.YtmcloipjlihhlaaSEnv
import Derived.Test.YtmcloipjlihhlaaYMore
namespace Go.Proofs.Ytmcloipjlihhlaa.N
open Go.Proofs.Ytmcloipjlihhlaa
open Go.X
set_option maxRecDepth 100000
set_option linter.unusedVariables false
set_option linter.unusedSimpArgs false
set_option maxHeartbeats 2000000

/-- tracery/traceryref3.May -/
def S43 (g : Int) (gA : Option Addr) (gL gC : Nat) (h : Heap) (R : Value → Heap → Prop) : Prop :=
  let hv : Heap := h.push (.cells #[.int .i64 g, .slice gA gL gC] 26)
  let K := fun (hv2 : Heap) =>
    (R (.bool false) hv2)
  cnd (decide (g < (0 : Int)))
    (K hv)
    (cnd (decide (g > (1024 : Int)))
      (K hv)
      (cnd (decide (((gL : Nat) : Int) > (3072 : Int)))
        (R (.bool false) hv)
        (∃ (Iv : List Value → Heap → Prop) (m : List Value → Heap → Nat), Iv [.int .i64 0] hv ∧ -- loop 0: ['i']
        ∀ i : Int, ∀ hv3, Iv [.int .i64 i] hv3 →
        cnd (decide (i < ((gL : Nat) : Int)))
          (∃ (Iv2 : List Value → Heap → Prop) (m2 : List Value → Heap → Nat), Iv2 [.int .i64 0] hv3 ∧ -- loop 2: ['k']
          ∀ k : Int, ∀ hv4, Iv2 [.int .i64 k] hv4 →
          cnd (decide (k < (2 : Int)))
            (∃ b o, gA = some ⟨b, o, none⟩ ∧ 0 ≤ i ∧ i < (gL : Nat) ∧ 0 ≤ k ∧ k < ((2 : Nat) : Int) ∧ ∃ x : Int, hcell hv4 b ((o + (Int.toNat i) * 2) + (Int.toNat k) * 1) = some (.int .i64 x) ∧ cnd (decide (x < (0 : Int)))
              (R (.bool false) hv4)
              (∃ b2 o2, gA = some ⟨b2, o2, none⟩ ∧ 0 ≤ i ∧ i < (gL : Nat) ∧ 0 ≤ k ∧ k < ((2 : Nat) : Int) ∧ ∃ x2 : Int, hcell hv4 b2 ((o2 + (Int.toNat i) * 2) + (Int.toNat k) * 1) = some (.int .i64 x2) ∧ cnd (decide (x2 ≥ g))
                (R (.bool false) hv4)
                (Iv2 [.int .i64 (IntKind.i64.wrap (k + (1 : Int)))] hv4 ∧ m2 [.int .i64 (IntKind.i64.wrap (k + (1 : Int)))] hv4 < m2 [.int .i64 k] hv4)))
            (Iv [.int .i64 (IntKind.i64.wrap (i + (1 : Int)))] hv4 ∧ m [.int .i64 (IntKind.i64.wrap (i + (1 : Int)))] hv4 < m [.int .i64 i] hv3))
          (R (.bool true) hv3))))
theorem calls43 {h : Heap} {R : Value → Heap → Prop} (g : Int) (gA : Option Addr) (gL gC : Nat) (H : S43 g gA gL gC h R) : CallsH Try.prog 43 #[.agg #[.int .i64 g, .slice gA gL gC]] h R := by
  have e : S43 g gA gL gC h R = FX (envX [1] 50) { loops := [(0, ⟨[1], [3], [1], []⟩), (2, ⟨[1, 3], [4], [1], []⟩)], joins := [], blocks := [], draws := [(9, ⟨20, false⟩)] } Try.f43 (Try.f43.body.getD .skip) [.agg #[.int .i64 g, .slice gA gL gC]] h R := by kernel_rfl
  exact calls_of_FX (envX_ok _ _) Try.func43 (by kernel_rfl) (by kernel_rfl) (by kernel_rfl) (e ▸ H)
/-- tracery/traceryref3.May -/
def Ok43 (g : Int) (edgesV : List (Int × Int)) (R : Bool → Prop) : Prop :=
  ∀ (h : Heap) (gA : Option Addr) (gL gC : Nat), Hp h [Ck.vw eP gA gL gC edgesV] → CallsH Try.prog 43 #[.agg #[.int .i64 g, .slice gA gL gC]] h fun v h' => ∃ (rV : Bool), Sy h [] h' [] ∧ v = .bool rV ∧ R rV
theorem Ok43.mono {g edgesV} {R R' : Bool → Prop} (H : Ok43 g edgesV R) (kz : ∀ rV, R rV → R' rV) : Ok43 g edgesV R' :=
  fun h gA gL gC hp => (H h gA gL gC hp).mono fun _ _ ⟨rV, P, e, q⟩ => ⟨rV, P, e, kz _ q⟩
def T43 (g : Int) (edgesV : List (Int × Int)) (R : Bool → Prop) : Prop :=
  ∃ Jv : Prop,
  ( cnd (decide (g < (0 : Int)))
     (Jv)
     (cnd (decide (g > (1024 : Int)))
       (Jv)
       (cnd (decide (((edgesV.length : Nat) : Int) > (3072 : Int)))
         (R false)
         (∃ (Iv : Int → Prop) (m : Int → Nat), Iv 0 ∧
         ∀ i : Int, Iv i →
         cnd (decide (i < ((edgesV.length : Nat) : Int)))
           (∃ (Iv2 : Int → Prop) (m2 : Int → Nat), Iv2 0 ∧
           ∀ k : Int, Iv2 k →
           cnd (decide (k < (2 : Int)))
             (0 ≤ i ∧ i < ((edgesV.length : Nat) : Int) ∧ 0 ≤ k ∧ k < ((2 : Nat) : Int) ∧ ∀ g_2 : (Int × Int), edgesV[(Int.toNat i)]? = some g_2 → cnd (decide ((nth2 g_2 k) < (0 : Int)))
               (R false)
               (0 ≤ k ∧ k < ((2 : Nat) : Int) ∧ cnd (decide ((nth2 g_2 k) ≥ g))
                 (R false)
                 (Iv2 (IntKind.i64.wrap (k + (1 : Int))) ∧ m2 (IntKind.i64.wrap (k + (1 : Int))) < m2 k)))
             (Iv (IntKind.i64.wrap (i + (1 : Int))) ∧ m (IntKind.i64.wrap (i + (1 : Int))) < m i))
           (R true))))) ∧
  (Jv →
  R false)
theorem ok43 {g edgesV} {R : Bool → Prop} (T : T43 g edgesV R) : Ok43 g edgesV R := by
  intro h gA gL gC H
  have Y : Sy h [] h _ := Sy.startM H rfl
  obtain rfl := Y.lenV 0 rfl
  apply calls43
  unfold S43
  unfold T43 at T
  intro hv
  have Y : Sy _ _ hv [_, _] := Y.junk _
  clear_value hv
  obtain ⟨Jv, T0, T1⟩ := T
  obtain ⟨B, hB, _⟩ := Y.cut [] [0, 1] rfl
  intro K
  have hK : ∀  (hv2 : Heap), (Sy h [] hv2 ([] ++ B) ∧ Jv) → K hv2 := by
    subst hB
    clear T0 Y
    rintro hv2 ⟨Y, T⟩
    replace T := T1 T
    have Y : Sy _ _ _ [_, _] := Y
    unfold K
    exact ⟨_, Y.pick [] rfl, rfl, T⟩
  subst hB
  replace T := T0
  clear T0 T1
  refine cnd_imp T (fun T => ?_) (fun T => ?_)
  · exact hK _ ⟨Y.pick [0, 1] rfl, T⟩
  · refine cnd_imp T (fun T => ?_) (fun T => ?_)
    · exact hK _ ⟨Y.pick [0, 1] rfl, T⟩
    · refine cnd_imp T (fun T => ?_) (fun T => ?_)
      · exact ⟨_, Y.pick [] rfl, rfl, T⟩
      · obtain ⟨Iv, m, T0, T1⟩ := T
        obtain ⟨B_2, hB_2, YB⟩ := Y.cut [] [0, 1] rfl
        obtain ⟨JJ, hJJ⟩ : ∃ JJ : Nat → List Value → Heap → Prop, JJ = (fun k_2 lz h' => ∃ (i : Int), lz = [.int .i64 i] ∧ Sy h [] h' ([] ++ B_2) ∧ Iv i ∧ m i = k_2) := ⟨_, rfl⟩
        refine ⟨fun lz h' => ∃ k_2, JJ k_2 lz h', Lm JJ, ?_, ?_⟩
        · subst hJJ hB_2
          exact ⟨_, _, rfl, YB, T0, rfl⟩
        · clear YB T0 Y
          intro i hv3 hI
          obtain ⟨k_2, hI, hm⟩ := loopIn hI
          subst hJJ hB_2
          obtain ⟨i, e, Y, T, rfl⟩ := hI
          cases e
          replace T := T1 i T
          have Y : Sy _ _ _ [_, _] := Y
          refine cnd_imp T (fun T => ?_) (fun T => ?_)
          · obtain ⟨Iv2, m2, T0, T1⟩ := T
            obtain ⟨B_3, hB_3, YB⟩ := Y.cut [] [0, 1] rfl
            obtain ⟨JJ_2, hJJ_2⟩ : ∃ JJ_2 : Nat → List Value → Heap → Prop, JJ_2 = (fun k_3 lz h' => ∃ (k : Int), lz = [.int .i64 k] ∧ Sy h [] h' ([] ++ B_3) ∧ Iv2 k ∧ m2 k = k_3) := ⟨_, rfl⟩
            refine ⟨fun lz h' => ∃ k_3, JJ_2 k_3 lz h', Lm JJ_2, ?_, ?_⟩
            · subst hJJ_2 hB_3
              exact ⟨_, _, rfl, YB, T0, rfl⟩
            · clear YB T0 Y
              intro k hv4 hI
              obtain ⟨k_3, hI, hm_2⟩ := loopIn hI
              subst hJJ_2 hB_3
              obtain ⟨k, e, Y, T, rfl⟩ := hI
              cases e
              replace T := T1 k T
              have Y : Sy _ _ _ [_, _] := Y
              refine cnd_imp T (fun T => ?_) (fun T => ?_)
              · have Y0 := Y
                have F : Fr [] hv4 hv4 := Fr.refl _ _
                obtain ⟨q, q_2, T⟩ := T
                obtain ⟨b_2, o_2, hb, hr, g_2, hx⟩ := Y0.atV 0 rfl q q_2
                refine ⟨b_2, o_2, hb, q, q_2, ?_⟩
                obtain ⟨q_5, q_6, T⟩ := T
                refine ⟨q_5, q_6, ?_⟩
                replace T := T g_2 hx
                refine ⟨_, nth2_cell (Y0.cellV 0 rfl hb (t := 0) hx rfl) (Y0.cellV 0 rfl hb (t := 1) hx rfl) (by assumption) (by assumption), ?_⟩
                refine cnd_imp T (fun T => ?_) (fun T => ?_)
                · exact ⟨_, Y.pick [] rfl, rfl, T⟩
                · refine ⟨b_2, o_2, hb, q, q_2, ?_⟩
                  obtain ⟨q_3, q_4, T⟩ := T
                  refine ⟨q_3, q_4, ?_⟩
                  refine ⟨_, nth2_cell (Y0.cellV 0 rfl hb (t := 0) hx rfl) (Y0.cellV 0 rfl hb (t := 1) hx rfl) (by assumption) (by assumption), ?_⟩
                  refine cnd_imp T (fun T => ?_) (fun T => ?_)
                  · exact ⟨_, Y.pick [] rfl, rfl, T⟩
                  · exact loopBack hm_2 ⟨_, rfl, Y.pick [0, 1] rfl, T.1, rfl⟩ T.2
              · exact loopBack hm ⟨_, rfl, Y.pick [0, 1] rfl, T.1, rfl⟩ T.2
          · exact ⟨_, Y.pick [] rfl, rfl, T⟩
/-- tracery/traceryref3.From -/
def S88 (g : Int) (gA : Option Addr) (gL gC : Nat) (hv : Int) (h : Heap) (R : Value → Heap → Prop) : Prop :=
  let hv2 : Heap := h.push (.cells #[.int .i64 g, .slice gA gL gC] 26)
  (2 : Int) ≠ 0 ∧ (2 : Int) ≠ 0 ∧ ∃ b o, gA = some ⟨b, o, none⟩ ∧ 0 ≤ (IntKind.i64.wrap (Int.tdiv hv (2 : Int))) ∧ (IntKind.i64.wrap (Int.tdiv hv (2 : Int))) < (gL : Nat) ∧ 0 ≤ (Int.tmod hv (2 : Int)) ∧ (Int.tmod hv (2 : Int)) < ((2 : Nat) : Int) ∧ ∃ x : Int, hcell hv2 b ((o + (Int.toNat (IntKind.i64.wrap (Int.tdiv hv (2 : Int)))) * 2) + (Int.toNat (Int.tmod hv (2 : Int))) * 1) = some (.int .i64 x) ∧ R (.int .i64 x) hv2
theorem calls88 {h : Heap} {R : Value → Heap → Prop} (g : Int) (gA : Option Addr) (gL gC : Nat) (hv : Int) (H : S88 g gA gL gC hv h R) : CallsH Try.prog 88 #[.agg #[.int .i64 g, .slice gA gL gC], .int .i64 hv] h R := by
  have e : S88 g gA gL gC hv h R = FX (envX [2] 14) { loops := [], joins := [], blocks := [], draws := [] } Try.f88 (Try.f88.body.getD .skip) [.agg #[.int .i64 g, .slice gA gL gC], .int .i64 hv] h R := by kernel_rfl
  exact calls_of_FX (envX_ok _ _) Try.func88 (by kernel_rfl) (by kernel_rfl) (by kernel_rfl) (e ▸ H)
/-- tracery/traceryref3.From -/
def Ok88 (g : Int) (edgesV : List (Int × Int)) (hv : Int) (R : Int → Prop) : Prop :=
  ∀ (h : Heap) (gA : Option Addr) (gL gC : Nat), Hp h [Ck.vw eP gA gL gC edgesV] → CallsH Try.prog 88 #[.agg #[.int .i64 g, .slice gA gL gC], .int .i64 hv] h fun v h' => ∃ (rV : Int), Sy h [] h' [] ∧ v = .int .i64 rV ∧ R rV
theorem Ok88.mono {g edgesV hv} {R R' : Int → Prop} (H : Ok88 g edgesV hv R) (kz : ∀ rV, R rV → R' rV) : Ok88 g edgesV hv R' :=
  fun h gA gL gC hp => (H h gA gL gC hp).mono fun _ _ ⟨rV, P, e, q⟩ => ⟨rV, P, e, kz _ q⟩
def T88 (g : Int) (edgesV : List (Int × Int)) (hv : Int) (R : Int → Prop) : Prop :=
  (2 : Int) ≠ 0 ∧ (2 : Int) ≠ 0 ∧ 0 ≤ (IntKind.i64.wrap (Int.tdiv hv (2 : Int))) ∧ (IntKind.i64.wrap (Int.tdiv hv (2 : Int))) < ((edgesV.length : Nat) : Int) ∧ 0 ≤ (Int.tmod hv (2 : Int)) ∧ (Int.tmod hv (2 : Int)) < ((2 : Nat) : Int) ∧ ∀ g_2 : (Int × Int), edgesV[(Int.toNat (IntKind.i64.wrap (Int.tdiv hv (2 : Int))))]? = some g_2 → R (nth2 g_2 (Int.tmod hv (2 : Int)))
theorem ok88 {g edgesV hv} {R : Int → Prop} (T : T88 g edgesV hv R) : Ok88 g edgesV hv R := by
  intro h gA gL gC H
  have Y : Sy h [] h _ := Sy.startM H rfl
  obtain rfl := Y.lenV 0 rfl
  apply calls88
  unfold S88
  unfold T88 at T
  intro hv2
  have Y : Sy _ _ hv2 [_, _] := Y.junk _
  clear_value hv2
  obtain ⟨q_6, T⟩ := T
  refine ⟨q_6, ?_⟩
  obtain ⟨q_5, T⟩ := T
  refine ⟨q_5, ?_⟩
  obtain ⟨q, q_2, T⟩ := T
  obtain ⟨b_2, o_2, hb, hr, g_2, hx⟩ := Y.atV 0 rfl q q_2
  refine ⟨b_2, o_2, hb, q, q_2, ?_⟩
  obtain ⟨q_3, q_4, T⟩ := T
  refine ⟨q_3, q_4, ?_⟩
  replace T := T g_2 hx
  refine ⟨_, nth2_cell (Y.cellV 0 rfl hb (t := 0) hx rfl) (Y.cellV 0 rfl hb (t := 1) hx rfl) (by assumption) (by assumption), ?_⟩
  exact ⟨_, Y.pick [] rfl, rfl, T⟩
/-- tracery/traceryref3.To -/
def S55 (g : Int) (gA : Option Addr) (gL gC : Nat) (hv : Int) (h : Heap) (R : Value → Heap → Prop) : Prop :=
  let hv2 : Heap := h.push (.cells #[.int .i64 g, .slice gA gL gC] 26)
  (2 : Int) ≠ 0 ∧ (2 : Int) ≠ 0 ∧ ∃ b o, gA = some ⟨b, o, none⟩ ∧ 0 ≤ (IntKind.i64.wrap (Int.tdiv hv (2 : Int))) ∧ (IntKind.i64.wrap (Int.tdiv hv (2 : Int))) < (gL : Nat) ∧ 0 ≤ (IntKind.i64.wrap ((1 : Int) - (Int.tmod hv (2 : Int)))) ∧ (IntKind.i64.wrap ((1 : Int) - (Int.tmod hv (2 : Int)))) < ((2 : Nat) : Int) ∧ ∃ x : Int, hcell hv2 b ((o + (Int.toNat (IntKind.i64.wrap (Int.tdiv hv (2 : Int)))) * 2) + (Int.toNat (IntKind.i64.wrap ((1 : Int) - (Int.tmod hv (2 : Int))))) * 1) = some (.int .i64 x) ∧ R (.int .i64 x) hv2
theorem calls55 {h : Heap} {R : Value → Heap → Prop} (g : Int) (gA : Option Addr) (gL gC : Nat) (hv : Int) (H : S55 g gA gL gC hv h R) : CallsH Try.prog 55 #[.agg #[.int .i64 g, .slice gA gL gC], .int .i64 hv] h R := by
  have e : S55 g gA gL gC hv h R = FX (envX [2] 15) { loops := [], joins := [], blocks := [], draws := [] } Try.f55 (Try.f55.body.getD .skip) [.agg #[.int .i64 g, .slice gA gL gC], .int .i64 hv] h R := by kernel_rfl
  exact calls_of_FX (envX_ok _ _) Try.func55 (by kernel_rfl) (by kernel_rfl) (by kernel_rfl) (e ▸ H)
/-- tracery/traceryref3.To -/
def Ok55 (g : Int) (edgesV : List (Int × Int)) (hv : Int) (R : Int → Prop) : Prop :=
  ∀ (h : Heap) (gA : Option Addr) (gL gC : Nat), Hp h [Ck.vw eP gA gL gC edgesV] → CallsH Try.prog 55 #[.agg #[.int .i64 g, .slice gA gL gC], .int .i64 hv] h fun v h' => ∃ (rV : Int), Sy h [] h' [] ∧ v = .int .i64 rV ∧ R rV
theorem Ok55.mono {g edgesV hv} {R R' : Int → Prop} (H : Ok55 g edgesV hv R) (kz : ∀ rV, R rV → R' rV) : Ok55 g edgesV hv R' :=
  fun h gA gL gC hp => (H h gA gL gC hp).mono fun _ _ ⟨rV, P, e, q⟩ => ⟨rV, P, e, kz _ q⟩
def T55 (g : Int) (edgesV : List (Int × Int)) (hv : Int) (R : Int → Prop) : Prop :=
  (2 : Int) ≠ 0 ∧ (2 : Int) ≠ 0 ∧ 0 ≤ (IntKind.i64.wrap (Int.tdiv hv (2 : Int))) ∧ (IntKind.i64.wrap (Int.tdiv hv (2 : Int))) < ((edgesV.length : Nat) : Int) ∧ 0 ≤ (IntKind.i64.wrap ((1 : Int) - (Int.tmod hv (2 : Int)))) ∧ (IntKind.i64.wrap ((1 : Int) - (Int.tmod hv (2 : Int)))) < ((2 : Nat) : Int) ∧ ∀ g_2 : (Int × Int), edgesV[(Int.toNat (IntKind.i64.wrap (Int.tdiv hv (2 : Int))))]? = some g_2 → R (nth2 g_2 (IntKind.i64.wrap ((1 : Int) - (Int.tmod hv (2 : Int)))))
theorem ok55 {g edgesV hv} {R : Int → Prop} (T : T55 g edgesV hv R) : Ok55 g edgesV hv R := by
  intro h gA gL gC H
  have Y : Sy h [] h _ := Sy.startM H rfl
  obtain rfl := Y.lenV 0 rfl
  apply calls55
  unfold S55
  unfold T55 at T
  intro hv2
  have Y : Sy _ _ hv2 [_, _] := Y.junk _
  clear_value hv2
  obtain ⟨q_6, T⟩ := T
  refine ⟨q_6, ?_⟩
  obtain ⟨q_5, T⟩ := T
  refine ⟨q_5, ?_⟩
  obtain ⟨q, q_2, T⟩ := T
  obtain ⟨b_2, o_2, hb, hr, g_2, hx⟩ := Y.atV 0 rfl q q_2
  refine ⟨b_2, o_2, hb, q, q_2, ?_⟩
  obtain ⟨q_3, q_4, T⟩ := T
  refine ⟨q_3, q_4, ?_⟩
  replace T := T g_2 hx
  refine ⟨_, nth2_cell (Y.cellV 0 rfl hb (t := 0) hx rfl) (Y.cellV 0 rfl hb (t := 1) hx rfl) (by assumption) (by assumption), ?_⟩
  exact ⟨_, Y.pick [] rfl, rfl, T⟩
/-- tracery/traceryref3.Outs -/
def S54 (g : Int) (gA : Option Addr) (gL gC : Nat) (h : Heap) (R : Value → Heap → Prop) : Prop :=
  let hv : Heap := h.push (.cells #[.int .i64 g, .slice gA gL gC] 26)
  0 ≤ g ∧ g ≤ g ∧ ((24 : Nat) : Int) * g ≤ 281474976710656 ∧ g ≤ 9223372036854775807 ∧ let hv2 : Heap := hv.push (.cells (madeCells (List.toArray [.slice none 0 0]) (Int.toNat g * 1)) 40)
  ∃ (Iv : List Value → Heap → Prop) (m : List Value → Heap → Nat), Iv [.int .i64 0] hv2 ∧ -- loop 0: ['h']
  ∀ hv3 : Int, ∀ hv4, Iv [.int .i64 hv3] hv4 →
  cnd (decide (hv3 < (IntKind.i64.wrap ((2 : Int) * ((gL : Nat) : Int)))))
    (let K := fun (p : Nat) (x : Int) (xA4 : Option Addr) (xL4 xC4 : Nat) (hv16 : Heap) =>
      (∃ b4 o4, (some (⟨hv.size, 0, none⟩ : Addr)) = some ⟨b4, o4, none⟩ ∧ 0 ≤ x ∧ x < ((Int.toNat g) : Nat) ∧ b4 ≠ p ∧ b4 ≠ h.size ∧ (∃ u, hcell hv16 b4 (o4 + (Int.toNat x) * 1) = some u) ∧ hfree hv16 b4 (o4 + (Int.toNat x) * 1) = true ∧ let hv17 : Heap := hset hv16 b4 (o4 + (Int.toNat x) * 1) (.slice xA4 xL4 xC4)
      Iv [.int .i64 (IntKind.i64.wrap (hv3 + (1 : Int)))] hv17 ∧ m [.int .i64 (IntKind.i64.wrap (hv3 + (1 : Int)))] hv17 < m [.int .i64 hv3] hv4)
    ∃ Mv : List Nat, (∀ b ∈ ([h.size] : List Nat), b ∉ Mv) ∧
    (callX Try.prog 88 #[.agg #[.int .i64 g, .slice gA gL gC], .int .i64 hv3] hv4 [h.size] fun v hv5 =>
    ∃ r : Int, v = .int .i64 r ∧
    Fr Mv hv4 hv5 ∧
    (callX Try.prog 88 #[.agg #[.int .i64 g, .slice gA gL gC], .int .i64 hv3] hv5 [h.size] fun v2 hv6 =>
    ∃ r2 : Int, v2 = .int .i64 r2 ∧
    Fr Mv hv4 hv6 ∧
    ∃ b o, (some (⟨hv.size, 0, none⟩ : Addr)) = some ⟨b, o, none⟩ ∧ 0 ≤ r2 ∧ r2 < ((Int.toNat g) : Nat) ∧ b ∉ Mv ∧ ∃ (xA : Option Addr) (xL xC : Nat), hcell hv4 b (o + (Int.toNat r2) * 1) = some (.slice xA xL xC) ∧ let hv7 : Heap := hv6.push (.cells #[.int .i64 hv3] 3)
    Fr Mv hv4 hv7 ∧
    ∃ old, Ownd hv7 3 1 xA xL xC old ∧ (∀ b ∈ ([hv6.size, h.size] : List Nat), b ∉ blkOf xA) ∧ (xL + 1) * 8 ≤ 140737488355328 ∧ (xL + 1) ≤ maxLen ∧
    ∀ sA sC hv8, Ownd hv8 3 1 sA (xL + 1) sC (old ++ [.int .i64 hv3]) → Fr (blkOf xA) hv7 hv8 → ((sA = xA ∧ sC = xC) ∨ ∃ g, sA = some ⟨g, 0, none⟩ ∧ hv7.size ≤ g) → (xC < (xL + 1) → Fr [] hv7 hv8) →
    Fr Mv hv4 hv8 ∧
    K hv6.size r sA (xL + 1) sC hv8)
    ∧ ( let hv9 : Heap := hv5.push (.cells #[.int .i64 hv3] 3)
     Fr Mv hv4 hv9 ∧
     callX Try.prog 88 #[.agg #[.int .i64 g, .slice gA gL gC], .int .i64 hv3] hv9 [hv5.size, h.size] fun v3 hv10 =>
     ∃ r3 : Int, v3 = .int .i64 r3 ∧
     Fr Mv hv4 hv10 ∧
     ∃ b2 o2, (some (⟨hv.size, 0, none⟩ : Addr)) = some ⟨b2, o2, none⟩ ∧ 0 ≤ r3 ∧ r3 < ((Int.toNat g) : Nat) ∧ b2 ∉ Mv ∧ ∃ (xA2 : Option Addr) (xL2 xC2 : Nat), hcell hv4 b2 (o2 + (Int.toNat r3) * 1) = some (.slice xA2 xL2 xC2) ∧ ∃ old2, Ownd hv10 3 1 xA2 xL2 xC2 old2 ∧ (∀ b ∈ ([hv5.size, h.size] : List Nat), b ∉ blkOf xA2) ∧ (xL2 + 1) * 8 ≤ 140737488355328 ∧ (xL2 + 1) ≤ maxLen ∧
     ∀ sA2 sC2 hv11, Ownd hv11 3 1 sA2 (xL2 + 1) sC2 (old2 ++ [.int .i64 hv3]) → Fr (blkOf xA2) hv10 hv11 → ((sA2 = xA2 ∧ sC2 = xC2) ∨ ∃ g, sA2 = some ⟨g, 0, none⟩ ∧ hv10.size ≤ g) → (xC2 < (xL2 + 1) → Fr [] hv10 hv11) →
     Fr Mv hv4 hv11 ∧
     K hv5.size r sA2 (xL2 + 1) sC2 hv11))
    ∧ ( let hv12 : Heap := hv4.push (.cells #[.int .i64 hv3] 3)
     Fr Mv hv4 hv12 ∧
     callX Try.prog 88 #[.agg #[.int .i64 g, .slice gA gL gC], .int .i64 hv3] hv12 [hv4.size, h.size] fun v4 hv13 =>
     ∃ r4 : Int, v4 = .int .i64 r4 ∧
     Fr Mv hv4 hv13 ∧
     callX Try.prog 88 #[.agg #[.int .i64 g, .slice gA gL gC], .int .i64 hv3] hv13 [hv4.size, h.size] fun v5 hv14 =>
     ∃ r5 : Int, v5 = .int .i64 r5 ∧
     Fr Mv hv4 hv14 ∧
     ∃ b3 o3, (some (⟨hv.size, 0, none⟩ : Addr)) = some ⟨b3, o3, none⟩ ∧ 0 ≤ r5 ∧ r5 < ((Int.toNat g) : Nat) ∧ b3 ∉ Mv ∧ ∃ (xA3 : Option Addr) (xL3 xC3 : Nat), hcell hv4 b3 (o3 + (Int.toNat r5) * 1) = some (.slice xA3 xL3 xC3) ∧ ∃ old3, Ownd hv14 3 1 xA3 xL3 xC3 old3 ∧ (∀ b ∈ ([hv4.size, h.size] : List Nat), b ∉ blkOf xA3) ∧ (xL3 + 1) * 8 ≤ 140737488355328 ∧ (xL3 + 1) ≤ maxLen ∧
     ∀ sA3 sC3 hv15, Ownd hv15 3 1 sA3 (xL3 + 1) sC3 (old3 ++ [.int .i64 hv3]) → Fr (blkOf xA3) hv14 hv15 → ((sA3 = xA3 ∧ sC3 = xC3) ∨ ∃ g, sA3 = some ⟨g, 0, none⟩ ∧ hv14.size ≤ g) → (xC3 < (xL3 + 1) → Fr [] hv14 hv15) →
     Fr Mv hv4 hv15 ∧
     K hv4.size r4 sA3 (xL3 + 1) sC3 hv15))
    (R (.slice (some (⟨hv.size, 0, none⟩ : Addr)) (Int.toNat g) (Int.toNat g)) hv4)
theorem calls54 {h : Heap} {R : Value → Heap → Prop} (g : Int) (gA : Option Addr) (gL gC : Nat) (H : S54 g gA gL gC h R) : CallsH Try.prog 54 #[.agg #[.int .i64 g, .slice gA gL gC]] h R := by
  have e : S54 g gA gL gC h R = FX (envX [1, 27] 31) { loops := [(0, ⟨[1, 3], [4], [1], []⟩)], joins := [], blocks := [], draws := [(5, ⟨13, true⟩)] } Try.f54 (Try.f54.body.getD .skip) [.agg #[.int .i64 g, .slice gA gL gC]] h R := by kernel_rfl
  exact calls_of_FX (envX_ok _ _) Try.func54 (by kernel_rfl) (by kernel_rfl) (by kernel_rfl) (e ▸ H)
/-- tracery/traceryref3.Outs -/
def Ok54 (g : Int) (edgesV : List (Int × Int)) (R : List (List Int) → Prop) : Prop :=
  ∀ (h : Heap) (gA : Option Addr) (gL gC : Nat), Hp h [Ck.vw eP gA gL gC edgesV] → CallsH Try.prog 54 #[.agg #[.int .i64 g, .slice gA gL gC]] h fun v h' => ∃ (rVA : Option Addr) (rVL rVC : Nat) (rH : List RowH) (rV : List (List Int)), Sy h [] h' [Ck.rows eI 40 3 rVA rVL rVC rH rV] ∧ v = .slice rVA rVL rVC ∧ R rV
theorem Ok54.mono {g edgesV} {R R' : List (List Int) → Prop} (H : Ok54 g edgesV R) (kz : ∀ rV, R rV → R' rV) : Ok54 g edgesV R' :=
  fun h gA gL gC hp => (H h gA gL gC hp).mono fun _ _ ⟨rVA, rVL, rVC, rH, rV, P, e, q⟩ => ⟨rVA, rVL, rVC, rH, rV, P, e, kz _ q⟩
def T54 (g : Int) (edgesV : List (Int × Int)) (R : List (List Int) → Prop) : Prop :=
  0 ≤ g ∧ g ≤ 1000000000000 ∧ ∃ (Iv : Int → List (List Int) → Prop) (m : Int → List (List Int) → Nat), Iv 0 (List.replicate (Int.toNat g) []) ∧
  ∀ hv3 : Int, ∀ x_2 : List (List Int), Iv hv3 x_2 →
  cnd (decide (hv3 < (IntKind.i64.wrap ((2 : Int) * ((edgesV.length : Nat) : Int)))))
    (∃ Jv : Int → List Int → Nat → List (List Int) → Prop,
    ( Ok88 g edgesV hv3 (fun r =>
     Ok88 g edgesV hv3 (fun r2 =>
     0 ≤ r2 ∧ r2 < (((Int.toNat g) : Nat) : Int) ∧ ∀ x_5 : List Int, x_2[(Int.toNat r2)]? = some x_5 → (x_5.length + 1) < 1000000000000 ∧ Jv r (x_5 ++ [hv3]) (Int.toNat r2) x_2))) ∧
    ∀ x : Int, ∀ x_3 : List Int, ∀ xi : Nat, ∀ x_2_2 : List (List Int), Jv x x_3 xi x_2_2 →
    0 ≤ x ∧ x < (((Int.toNat g) : Nat) : Int) ∧ (Int.toNat x) = xi ∧ Iv (IntKind.i64.wrap (hv3 + (1 : Int))) (x_2_2.set (Int.toNat x) x_3) ∧ m (IntKind.i64.wrap (hv3 + (1 : Int))) (x_2_2.set (Int.toNat x) x_3) < m hv3 x_2)
    (R x_2)
theorem ok54 {g edgesV} {R : List (List Int) → Prop} (T : T54 g edgesV R) : Ok54 g edgesV R := by
  intro h gA gL gC H
  have Y : Sy h [] h _ := Sy.startM H rfl
  obtain rfl := Y.lenV 0 rfl
  apply calls54
  unfold S54
  unfold T54 at T
  intro hv
  have Y : Sy _ _ hv [_, _] := Y.junk _
  clear_value hv
  obtain ⟨q, q_3, T⟩ := T
  refine ⟨q, Int.le_refl _, by omega, by omega, ?_⟩
  intro hv2
  have Y : Sy _ _ hv2 [_, _, _] := Y.mkR (ty := 40) eI 3 (Int.toNat g) (Int.toNat g) (Nat.le_refl _) (by simp [maxLen]; omega)
  clear_value hv2
  obtain ⟨Iv, m, T0, T1⟩ := T
  obtain ⟨B, hB, YB⟩ := Y.cut [2] [0, 1] rfl
  obtain ⟨F, hF⟩ := Y.fnR (k := 2) rfl
  obtain ⟨JJ, hJJ⟩ : ∃ JJ : Nat → List Value → Heap → Prop, JJ = (fun k lz h' => ∃ (hv3 : Int) (x_2H : List RowH) (x_2 : List (List Int)), lz = [.int .i64 hv3] ∧ Sy h [] h' ([F x_2H x_2] ++ B) ∧ Iv hv3 x_2 ∧ m hv3 x_2 = k) := ⟨_, rfl⟩
  refine ⟨fun lz h' => ∃ k, JJ k lz h', Lm JJ, ?_, ?_⟩
  · subst hJJ hB hF
    exact ⟨_, _, _, _, rfl, YB, T0, rfl⟩
  · clear YB T0 Y
    intro hv3 hv4 hI
    obtain ⟨k, hI, hm⟩ := loopIn hI
    subst hJJ hB hF
    obtain ⟨hv3, x_2H, x_2, e, Y, T, rfl⟩ := hI
    cases e
    replace T := T1 hv3 x_2 T
    have Y : Sy _ _ _ [_, _, _] := Y
    refine cnd_imp T (fun T => ?_) (fun T => ?_)
    · obtain ⟨Jv, T0, T1⟩ := T
      obtain ⟨B_2, hB_2, _⟩ := Y.cut [] [1, 2] rfl
      obtain ⟨F_2, hF_2⟩ := Y.fnX (k := 0) rfl
      intro K
      have hK : ∀ (p : Nat) (x : Int) (xA4 : Option Addr) (xL4 xC4 : Nat) (hv16 : Heap), (∃ (x_3 : List Int) (xi : Nat) (x_2_2H : List RowH) (x_2_2 : List (List Int)), Sy h [] hv16 ([Ck.sl eI 3 xA4 xL4 xC4 x_3, Ck.junk p, F_2 xi x_2_2H x_2_2] ++ B_2) ∧ Jv x x_3 xi x_2_2) → K p x xA4 xL4 xC4 hv16 := by
        subst hB_2 hF_2
        clear T0 Y
        rintro p x xA4 xL4 xC4 hv16 ⟨x_3, xi, x_2_2H, x_2_2, Y, T⟩
        obtain rfl := Y.lenS 0 rfl
        replace T := T1 x x_3 xi x_2_2 T
        have Y : Sy _ _ _ [_, _, _, _, _] := Y
        unfold K
        obtain ⟨q_4, q_5, T⟩ := T
        obtain ⟨b_2, hb, ho, x_4, hx, r_2, hr⟩ := Y.atR 2 rfl q_4 q_5
        refine ⟨b_2, 0, hb, q_4, q_5, ?_⟩
        obtain ⟨qe, T⟩ := T
        refine ⟨(Y.neJ 2 1 rfl rfl rfl (memR hb)), (Y.neJ 2 4 rfl rfl rfl (memR hb)), (Y.cellRX 2 rfl hb (by omega)), Y.freeR 2 rfl hb _, ?_⟩
        intro hv17
        have Y : Sy _ _ hv17 [_, _, _, _, _] := Y.putXe 2 0 rfl qe rfl hb rfl (by omega)
        clear_value hv17
        exact loopBack hm ⟨_, _, _, rfl, Y.pick [2, 3, 4] rfl, T.1, rfl⟩ T.2
      subst hB_2 hF_2
      replace T := T0
      clear T0 T1
      have Y0 := Y
      obtain ⟨Mx, hMx⟩ := Y.mt [] [0]
      refine ⟨Mx, ?_⟩
      subst hMx
      refine ⟨(allc (Y0.nMJ 2 [] [0] rfl rfl) alln), ?_⟩
      have F : Fr _ hv4 hv4 := Y0.frM [] [0]
      refine ⟨?_, ?_⟩
      · refine callX_sy (T _ _ _ _ (Y.pick [1] rfl).hp) (fun _ _ ⟨_, p, _⟩ => p.fr) (allc (fun h => by cases h) alln) ?_
        rintro v hv5 ⟨r, PP, rfl, T⟩
        have F : Fr _ _ hv5 := F.trans PP.fr.nil
        have fshv5 := F.size
        have Y : Sy _ _ hv5 [_, _, _] := Y.gr PP.fr
        clear PP
        refine ⟨r, rfl, ?_⟩
        refine ⟨F, ?_⟩
        refine ⟨?_, ?_⟩
        · refine callX_sy (T _ _ _ _ (Y.pick [1] rfl).hp) (fun _ _ ⟨_, p, _⟩ => p.fr) (allc (fun h => by cases h) alln) ?_
          rintro v2 hv6 ⟨r2, PP, rfl, T⟩
          have F : Fr _ _ hv6 := F.trans PP.fr.nil
          have fshv6 := F.size
          have Y : Sy _ _ hv6 [_, _, _] := Y.gr PP.fr
          clear PP
          refine ⟨r2, rfl, ?_⟩
          refine ⟨F, ?_⟩
          obtain ⟨q_6, q_7, T⟩ := T
          obtain ⟨b_3, hb_2, ho_2, x_5, hx_2, r_3, hr_2⟩ := Y0.atR 0 rfl q_6 q_7
          refine ⟨b_3, 0, hb_2, q_6, q_7, ?_⟩
          refine ⟨(Y0.nMr 0 [] [0] rfl rfl hb_2), ?_⟩
          replace T := T x_5 hx_2
          refine ⟨_, _, _, Y0.cellR 0 rfl hb_2 hr_2 hx_2, ?_⟩
          intro hv7
          have Y : Sy _ _ hv7 [_, _, _, _] := Y.junk _
          have F : Fr _ _ hv7 := F.pushr _
          have fshv7 := F.size
          clear_value hv7
          refine ⟨F, ?_⟩
          have Y : Sy _ _ _ [_, _, _, _, _] := Y.takeR 0 rfl hr_2 hx_2
          obtain ⟨q_8, T⟩ := T
          refine ⟨_, Y.ownS 4 rfl, (allc (Y.nJ 4 3 rfl rfl rfl) (allc (Y.nJ 4 2 rfl rfl rfl) alln)), by first | exact appB q_8 (by decide) | omega, by first | exact appM q_8 | (simp [maxLen]; omega), ?_⟩
          intro sA sC hv8 ow fA gA gB
          have Y : Sy _ _ hv8 [_, _, _, _, _] := Y.appS 4 rfl ([hv3] : List Int) ow fA gA rfl rfl
          have ns := F.appIn (Y0.inMr 0 [] [0] rfl rfl hr_2) gA fshv7
          have F : Fr _ _ hv8 := F.comp fA (Y0.inMr 0 [] [0] rfl rfl hr_2)
          have fshv8 := F.size
          refine ⟨F, ?_⟩
          exact hK _ _ _ _ _ _ ⟨_, _, _, _, Y.pick [4, 3, 0, 1, 2] rfl, T⟩
        · intro hv9
          have Y : Sy _ _ hv9 [_, _, _, _] := Y.junk _
          have F : Fr _ _ hv9 := F.pushr _
          have fshv9 := F.size
          clear_value hv9
          refine ⟨F, ?_⟩
          refine callX_sy (T _ _ _ _ (Y.pick [1] rfl).hp) (fun _ _ ⟨_, p, _⟩ => p.fr) (allc (fun h => by cases h) (allc (fun h => by cases h) alln)) ?_
          rintro v3 hv10 ⟨r3, PP, rfl, T⟩
          have F : Fr _ _ hv10 := F.trans PP.fr.nil
          have fshv10 := F.size
          have Y : Sy _ _ hv10 [_, _, _, _] := Y.gr PP.fr
          clear PP
          refine ⟨r3, rfl, ?_⟩
          refine ⟨F, ?_⟩
          obtain ⟨q_9, q_10, T⟩ := T
          obtain ⟨b_4, hb_3, ho_3, x_6, hx_3, r_4, hr_3⟩ := Y0.atR 0 rfl q_9 q_10
          refine ⟨b_4, 0, hb_3, q_9, q_10, ?_⟩
          refine ⟨(Y0.nMr 0 [] [0] rfl rfl hb_3), ?_⟩
          replace T := T x_6 hx_3
          refine ⟨_, _, _, Y0.cellR 0 rfl hb_3 hr_3 hx_3, ?_⟩
          have Y : Sy _ _ _ [_, _, _, _, _] := Y.takeR 0 rfl hr_3 hx_3
          obtain ⟨q_11, T⟩ := T
          refine ⟨_, Y.ownS 4 rfl, (allc (Y.nJ 4 3 rfl rfl rfl) (allc (Y.nJ 4 2 rfl rfl rfl) alln)), by first | exact appB q_11 (by decide) | omega, by first | exact appM q_11 | (simp [maxLen]; omega), ?_⟩
          intro sA2 sC2 hv11 ow fA gA gB
          have Y : Sy _ _ hv11 [_, _, _, _, _] := Y.appS 4 rfl ([hv3] : List Int) ow fA gA rfl rfl
          have ns_2 := F.appIn (Y0.inMr 0 [] [0] rfl rfl hr_3) gA fshv10
          have F : Fr _ _ hv11 := F.comp fA (Y0.inMr 0 [] [0] rfl rfl hr_3)
          have fshv11 := F.size
          refine ⟨F, ?_⟩
          exact hK _ _ _ _ _ _ ⟨_, _, _, _, Y.pick [4, 3, 0, 1, 2] rfl, T⟩
      · intro hv12
        have Y : Sy _ _ hv12 [_, _, _, _] := Y.junk _
        have F : Fr _ _ hv12 := F.pushr _
        have fshv12 := F.size
        clear_value hv12
        refine ⟨F, ?_⟩
        refine callX_sy (T _ _ _ _ (Y.pick [1] rfl).hp) (fun _ _ ⟨_, p, _⟩ => p.fr) (allc (fun h => by cases h) (allc (fun h => by cases h) alln)) ?_
        rintro v4 hv13 ⟨r4, PP, rfl, T⟩
        have F : Fr _ _ hv13 := F.trans PP.fr.nil
        have fshv13 := F.size
        have Y : Sy _ _ hv13 [_, _, _, _] := Y.gr PP.fr
        clear PP
        refine ⟨r4, rfl, ?_⟩
        refine ⟨F, ?_⟩
        refine callX_sy (T _ _ _ _ (Y.pick [1] rfl).hp) (fun _ _ ⟨_, p, _⟩ => p.fr) (allc (fun h => by cases h) (allc (fun h => by cases h) alln)) ?_
        rintro v5 hv14 ⟨r5, PP, rfl, T⟩
        have F : Fr _ _ hv14 := F.trans PP.fr.nil
        have fshv14 := F.size
        have Y : Sy _ _ hv14 [_, _, _, _] := Y.gr PP.fr
        clear PP
        refine ⟨r5, rfl, ?_⟩
        refine ⟨F, ?_⟩
        obtain ⟨q_12, q_13, T⟩ := T
        obtain ⟨b_5, hb_4, ho_4, x_7, hx_4, r_5, hr_4⟩ := Y0.atR 0 rfl q_12 q_13
        refine ⟨b_5, 0, hb_4, q_12, q_13, ?_⟩
        refine ⟨(Y0.nMr 0 [] [0] rfl rfl hb_4), ?_⟩
        replace T := T x_7 hx_4
        refine ⟨_, _, _, Y0.cellR 0 rfl hb_4 hr_4 hx_4, ?_⟩
        have Y : Sy _ _ _ [_, _, _, _, _] := Y.takeR 0 rfl hr_4 hx_4
        obtain ⟨q_14, T⟩ := T
        refine ⟨_, Y.ownS 4 rfl, (allc (Y.nJ 4 3 rfl rfl rfl) (allc (Y.nJ 4 2 rfl rfl rfl) alln)), by first | exact appB q_14 (by decide) | omega, by first | exact appM q_14 | (simp [maxLen]; omega), ?_⟩
        intro sA3 sC3 hv15 ow fA gA gB
        have Y : Sy _ _ hv15 [_, _, _, _, _] := Y.appS 4 rfl ([hv3] : List Int) ow fA gA rfl rfl
        have ns_3 := F.appIn (Y0.inMr 0 [] [0] rfl rfl hr_4) gA fshv14
        have F : Fr _ _ hv15 := F.comp fA (Y0.inMr 0 [] [0] rfl rfl hr_4)
        have fshv15 := F.size
        refine ⟨F, ?_⟩
        exact hK _ _ _ _ _ _ ⟨_, _, _, _, Y.pick [4, 3, 0, 1, 2] rfl, T⟩
    · exact ⟨_, _, _, _, _, Y.pick [0] rfl, rfl, T⟩
/-- tracery/traceryref6.blank -/
def S127 (n : Int) (x : Int) (h : Heap) (R : Value → Heap → Prop) : Prop :=
  0 ≤ n ∧ n ≤ n ∧ ((8 : Nat) : Int) * n ≤ 281474976710656 ∧ n ≤ 9223372036854775807 ∧ let hv : Heap := h.push (.cells (madeCells (List.toArray [.int .i64 0]) (Int.toNat n * 1)) 3)
  ∃ (Iv : List Value → Heap → Prop) (m : List Value → Heap → Nat), Iv [.int .i64 0] hv ∧ -- loop 0: ['i']
  ∀ i : Int, ∀ hv2, Iv [.int .i64 i] hv2 →
  cnd (decide (i < n))
    (∃ b o, (some (⟨h.size, 0, none⟩ : Addr)) = some ⟨b, o, none⟩ ∧ 0 ≤ i ∧ i < ((Int.toNat n) : Nat) ∧ (∃ u, hcell hv2 b (o + (Int.toNat i) * 1) = some u) ∧ hfree hv2 b (o + (Int.toNat i) * 1) = true ∧ let hv3 : Heap := hset hv2 b (o + (Int.toNat i) * 1) (.int .i64 x)
    Iv [.int .i64 (IntKind.i64.wrap (i + (1 : Int)))] hv3 ∧ m [.int .i64 (IntKind.i64.wrap (i + (1 : Int)))] hv3 < m [.int .i64 i] hv2)
    (R (.slice (some (⟨h.size, 0, none⟩ : Addr)) (Int.toNat n) (Int.toNat n)) hv2)
theorem calls127 {h : Heap} {R : Value → Heap → Prop} (n : Int) (x : Int) (H : S127 n x h R) : CallsH Try.prog 127 #[.int .i64 n, .int .i64 x] h R := by
  have e : S127 n x h R = FX (envX [] 19) { loops := [(0, ⟨[0, 1, 5], [6], [], []⟩)], joins := [], blocks := [], draws := [] } Try.f127 (Try.f127.body.getD .skip) [.int .i64 n, .int .i64 x] h R := by kernel_rfl
  exact calls_of_FX (envX_ok _ _) Try.func127 (by kernel_rfl) (by kernel_rfl) (by kernel_rfl) (e ▸ H)
/-- tracery/traceryref6.blank -/
def Ok127 (n : Int) (x : Int) (R : List Int → Prop) : Prop :=
  ∀ (h : Heap), Hp h [] → CallsH Try.prog 127 #[.int .i64 n, .int .i64 x] h fun v h' => ∃ (rVA : Option Addr) (rVL rVC : Nat) (rV : List Int), Sy h [] h' [Ck.sl eI 3 rVA rVL rVC rV] ∧ v = .slice rVA rVL rVC ∧ R rV
theorem Ok127.mono {n x} {R R' : List Int → Prop} (H : Ok127 n x R) (kz : ∀ rV, R rV → R' rV) : Ok127 n x R' :=
  fun h  hp => (H h  hp).mono fun _ _ ⟨rVA, rVL, rVC, rV, P, e, q⟩ => ⟨rVA, rVL, rVC, rV, P, e, kz _ q⟩
def T127 (n : Int) (x : Int) (R : List Int → Prop) : Prop :=
  0 ≤ n ∧ n ≤ 1000000000000 ∧ ∃ (Iv : Int → List Int → Prop) (m : Int → List Int → Nat), Iv 0 (List.replicate (Int.toNat n) (0 : Int)) ∧
  ∀ i : Int, ∀ x_2 : List Int, Iv i x_2 →
  cnd (decide (i < n))
    (0 ≤ i ∧ i < (((Int.toNat n) : Nat) : Int) ∧ Iv (IntKind.i64.wrap (i + (1 : Int))) (x_2.set (Int.toNat i) x) ∧ m (IntKind.i64.wrap (i + (1 : Int))) (x_2.set (Int.toNat i) x) < m i x_2)
    (R x_2)
theorem ok127 {n x} {R : List Int → Prop} (T : T127 n x R) : Ok127 n x R := by
  intro h  H
  have Y : Sy h [] h _ := Sy.startM H rfl
  apply calls127
  unfold S127
  unfold T127 at T
  obtain ⟨q, q_3, T⟩ := T
  refine ⟨q, Int.le_refl _, by omega, by omega, ?_⟩
  intro hv
  have Y : Sy _ _ hv [_] := Y.mkS (E := eI) (ty := 3) (0 : Int) (Int.toNat n) (Int.toNat n) (Nat.le_refl _) (by simp [maxLen]; omega)
  clear_value hv
  obtain ⟨Iv, m, T0, T1⟩ := T
  obtain ⟨B, hB, YB⟩ := Y.cut [0] [] rfl
  obtain ⟨F, hF⟩ := Y.fnS (k := 0) rfl
  obtain ⟨JJ, hJJ⟩ : ∃ JJ : Nat → List Value → Heap → Prop, JJ = (fun k lz h' => ∃ (i : Int) (x_2 : List Int), lz = [.int .i64 i] ∧ Sy h [] h' ([F x_2] ++ B) ∧ Iv i x_2 ∧ m i x_2 = k) := ⟨_, rfl⟩
  refine ⟨fun lz h' => ∃ k, JJ k lz h', Lm JJ, ?_, ?_⟩
  · subst hJJ hB hF
    exact ⟨_, _, _, rfl, YB, T0, rfl⟩
  · clear YB T0 Y
    intro i hv2 hI
    obtain ⟨k, hI, hm⟩ := loopIn hI
    subst hJJ hB hF
    obtain ⟨i, x_2, e, Y, T, rfl⟩ := hI
    cases e
    replace T := T1 i x_2 T
    have Y : Sy _ _ _ [_] := Y
    refine cnd_imp T (fun T => ?_) (fun T => ?_)
    · obtain ⟨q_4, q_5, T⟩ := T
      obtain ⟨b_2, hb, ho, x_3, hx⟩ := Y.atS 0 rfl q_4 q_5
      refine ⟨b_2, 0, hb, q_4, q_5, ?_⟩
      refine ⟨Y.cellEx 0 rfl hb (t := 0) (by omega) (by decide), Y.freeS 0 rfl hb _, ?_⟩
      intro hv3
      have Y : Sy _ _ hv3 [_] := Y.st1 0 rfl hb x (by omega) rfl
      clear_value hv3
      exact loopBack hm ⟨_, _, rfl, Y.pick [0] rfl, T.1, rfl⟩ T.2
    · exact ⟨_, _, _, _, Y.pick [0] rfl, rfl, T⟩
/-- tracery/traceryref6.Parts -/
def S36 (g : Int) (gA : Option Addr) (gL gC : Nat) (goneA : Option Addr) (goneL goneC : Nat) (cutA : Option Addr) (cutL cutC : Nat) (h : Heap) (R : Value → Heap → Prop) : Prop :=
  let hv : Heap := h.push (.cells #[.int .i64 g, .slice gA gL gC] 26)
  callX Try.prog 127 #[.int .i64 g, .int .i64 (-1)] hv [h.size] fun v hv2 =>
  ∃ (rA : Option Addr) (rL rC : Nat), v = .slice rA rL rC ∧
  callX Try.prog 54 #[.agg #[.int .i64 g, .slice gA gL gC]] hv2 [h.size] fun v2 hv3 =>
  ∃ (rA2 : Option Addr) (rL2 rC2 : Nat), v2 = .slice rA2 rL2 rC2 ∧
  ∃ (Iv : List Value → Heap → Prop) (m : List Value → Heap → Nat), Iv [.int .i64 0, .int .i64 0] hv3 ∧ -- loop 0: ['n', 's']
  ∀ n : Int, ∀ s : Int, ∀ hv4, Iv [.int .i64 n, .int .i64 s] hv4 →
  cnd (decide (s < g))
    (∃ Jv : List Value → Heap → Prop, -- block 1 ['n']
    ( let K := fun (hv5 : Heap) =>
       (let hv6 : Heap := hv5.push (.cells #[.int .i64 s] 3)
       ∃ b3 o3, rA = some ⟨b3, o3, none⟩ ∧ 0 ≤ s ∧ s < (rL : Nat) ∧ b3 ≠ h.size ∧ (∃ u, hcell hv6 b3 (o3 + (Int.toNat s) * 1) = some u) ∧ hfree hv6 b3 (o3 + (Int.toNat s) * 1) = true ∧ let hv7 : Heap := hset hv6 b3 (o3 + (Int.toNat s) * 1) (.int .i64 n)
       ∃ (Iv2 : List Value → Heap → Prop) (m2 : List Value → Heap → Nat), Iv2 [.slice (some (⟨hv5.size, 0, none⟩ : Addr)) 1 1] hv7 ∧ -- loop 2: ['todo']
       ∀ (todoA : Option Addr) (todoL todoC : Nat), ∀ hv8, Iv2 [.slice todoA todoL todoC] hv8 →
       cnd (decide (((todoL : Nat) : Int) > (0 : Int)))
         (∃ b4 o4, todoA = some ⟨b4, o4, none⟩ ∧ 0 ≤ (IntKind.i64.wrap (((todoL : Nat) : Int) - (1 : Int))) ∧ (IntKind.i64.wrap (((todoL : Nat) : Int) - (1 : Int))) < (todoL : Nat) ∧ ∃ x3 : Int, hcell hv8 b4 (o4 + (Int.toNat (IntKind.i64.wrap (((todoL : Nat) : Int) - (1 : Int)))) * 1) = some (.int .i64 x3) ∧ 0 ≤ (IntKind.i64.wrap (((todoL : Nat) : Int) - (1 : Int))) ∧ (IntKind.i64.wrap (((todoL : Nat) : Int) - (1 : Int))) ≤ (todoC : Nat) ∧ ∃ (Iv3 : List Value → Heap → Prop) (m3 : List Value → Heap → Nat), Iv3 [.slice (if todoC = 0 then todoA else Option.map (fun addr => Addr.add addr (0 * 1)) todoA) ((Int.toNat (IntKind.i64.wrap (((todoL : Nat) : Int) - (1 : Int)))) - 0) (todoC - 0), .int .i64 0] hv8 ∧ -- loop 4: ['todo', 'k']
         ∀ (todoA2 : Option Addr) (todoL2 todoC2 : Nat), ∀ k : Int, ∀ hv9, Iv3 [.slice todoA2 todoL2 todoC2, .int .i64 k] hv9 →
         ∃ b5 o5, rA2 = some ⟨b5, o5, none⟩ ∧ 0 ≤ x3 ∧ x3 < (rL2 : Nat) ∧ ∃ (xA : Option Addr) (xL xC : Nat), hcell hv9 b5 (o5 + (Int.toNat x3) * 1) = some (.slice xA xL xC) ∧ cnd (decide (k < ((xL : Nat) : Int)))
           (∃ Jv2 : List Value → Heap → Prop, -- block 5 ['todo']
           ( ∃ b6 o6, rA2 = some ⟨b6, o6, none⟩ ∧ 0 ≤ x3 ∧ x3 < (rL2 : Nat) ∧ ∃ (xA2 : Option Addr) (xL2 xC2 : Nat), hcell hv9 b6 (o6 + (Int.toNat x3) * 1) = some (.slice xA2 xL2 xC2) ∧ ∃ b7 o7, xA2 = some ⟨b7, o7, none⟩ ∧ 0 ≤ k ∧ k < (xL2 : Nat) ∧ ∃ x4 : Int, hcell hv9 b7 (o7 + (Int.toNat k) * 1) = some (.int .i64 x4) ∧ callX Try.prog 55 #[.agg #[.int .i64 g, .slice gA gL gC], .int .i64 x4] hv9 [h.size] fun v3 hv10 =>
            ∃ r : Int, v3 = .int .i64 r ∧
            Fr [] hv9 hv10 ∧
            let K3 := fun (hv12 : Heap) =>
              (∃ b16 o16, rA = some ⟨b16, o16, none⟩ ∧ 0 ≤ r ∧ r < (rL : Nat) ∧ b16 ≠ h.size ∧ (∃ u, hcell hv12 b16 (o16 + (Int.toNat r) * 1) = some u) ∧ hfree hv12 b16 (o16 + (Int.toNat r) * 1) = true ∧ let hv13 : Heap := hset hv12 b16 (o16 + (Int.toNat r) * 1) (.int .i64 n)
              let hv14 : Heap := hv13.push (.cells #[.int .i64 r] 3)
              ∃ old, Ownd hv14 3 1 todoA2 todoL2 todoC2 old ∧ (∀ b ∈ ([hv13.size, h.size] : List Nat), b ∉ blkOf todoA2) ∧ (todoL2 + 1) * 8 ≤ 140737488355328 ∧ (todoL2 + 1) ≤ maxLen ∧
              ∀ sA sC hv15, Ownd hv15 3 1 sA (todoL2 + 1) sC (old ++ [.int .i64 r]) → Fr (blkOf todoA2) hv14 hv15 → ((sA = todoA2 ∧ sC = todoC2) ∨ ∃ g, sA = some ⟨g, 0, none⟩ ∧ hv14.size ≤ g) → (todoC2 < (todoL2 + 1) → Fr [] hv14 hv15) →
              Jv2 [.slice sA (todoL2 + 1) sC] hv15)
            let K2 := fun (x11 : Bool) (hv11 : Heap) =>
              (cnd x11
                (Jv2 [.slice todoA2 todoL2 todoC2] hv11)
                (K3 hv11))
            ∃ b8 o8, rA = some ⟨b8, o8, none⟩ ∧ 0 ≤ r ∧ r < (rL : Nat) ∧ ∃ x5 : Int, hcell hv10 b8 (o8 + (Int.toNat r) * 1) = some (.int .i64 x5) ∧ cnd (decide (x5 ≥ (0 : Int)))
              (Jv2 [.slice todoA2 todoL2 todoC2] hv10)
              (cnd (!(Option.isNone goneA))
                (∃ b9 o9, goneA = some ⟨b9, o9, none⟩ ∧ 0 ≤ r ∧ r < (goneL : Nat) ∧ ∃ x6 : Bool, hcell hv10 b9 (o9 + (Int.toNat r) * 1) = some (.bool x6) ∧ cnd x6
                  (Jv2 [.slice todoA2 todoL2 todoC2] hv10)
                  (cnd (!(Option.isNone cutA))
                    (∃ b10 o10, rA2 = some ⟨b10, o10, none⟩ ∧ 0 ≤ x3 ∧ x3 < (rL2 : Nat) ∧ ∃ (xA3 : Option Addr) (xL3 xC3 : Nat), hcell hv10 b10 (o10 + (Int.toNat x3) * 1) = some (.slice xA3 xL3 xC3) ∧ ∃ b11 o11, xA3 = some ⟨b11, o11, none⟩ ∧ 0 ≤ k ∧ k < (xL3 : Nat) ∧ ∃ x7 : Int, hcell hv10 b11 (o11 + (Int.toNat k) * 1) = some (.int .i64 x7) ∧ (2 : Int) ≠ 0 ∧ ∃ b12 o12, cutA = some ⟨b12, o12, none⟩ ∧ 0 ≤ (IntKind.i64.wrap (Int.tdiv x7 (2 : Int))) ∧ (IntKind.i64.wrap (Int.tdiv x7 (2 : Int))) < (cutL : Nat) ∧ ∃ x8 : Bool, hcell hv10 b12 (o12 + (Int.toNat (IntKind.i64.wrap (Int.tdiv x7 (2 : Int)))) * 1) = some (.bool x8) ∧ K2 x8 hv10)
                    (K3 hv10)))
                (cnd (!(Option.isNone cutA))
                  (∃ b13 o13, rA2 = some ⟨b13, o13, none⟩ ∧ 0 ≤ x3 ∧ x3 < (rL2 : Nat) ∧ ∃ (xA4 : Option Addr) (xL4 xC4 : Nat), hcell hv10 b13 (o13 + (Int.toNat x3) * 1) = some (.slice xA4 xL4 xC4) ∧ ∃ b14 o14, xA4 = some ⟨b14, o14, none⟩ ∧ 0 ≤ k ∧ k < (xL4 : Nat) ∧ ∃ x9 : Int, hcell hv10 b14 (o14 + (Int.toNat k) * 1) = some (.int .i64 x9) ∧ (2 : Int) ≠ 0 ∧ ∃ b15 o15, cutA = some ⟨b15, o15, none⟩ ∧ 0 ≤ (IntKind.i64.wrap (Int.tdiv x9 (2 : Int))) ∧ (IntKind.i64.wrap (Int.tdiv x9 (2 : Int))) < (cutL : Nat) ∧ ∃ x10 : Bool, hcell hv10 b15 (o15 + (Int.toNat (IntKind.i64.wrap (Int.tdiv x9 (2 : Int)))) * 1) = some (.bool x10) ∧ K2 x10 hv10)
                  (K3 hv10)))) ∧
           ∀ (todoA3 : Option Addr) (todoL3 todoC3 : Nat), ∀ hv16, Jv2 [.slice todoA3 todoL3 todoC3] hv16 →
           Iv3 [.slice todoA3 todoL3 todoC3, .int .i64 (IntKind.i64.wrap (k + (1 : Int)))] hv16 ∧ m3 [.slice todoA3 todoL3 todoC3, .int .i64 (IntKind.i64.wrap (k + (1 : Int)))] hv16 < m3 [.slice todoA2 todoL2 todoC2, .int .i64 k] hv9)
           (Iv2 [.slice todoA2 todoL2 todoC2] hv9 ∧ m2 [.slice todoA2 todoL2 todoC2] hv9 < m2 [.slice todoA todoL todoC] hv8))
         (Jv [.int .i64 (IntKind.i64.wrap (n + (1 : Int)))] hv8))
     ∃ b o, rA = some ⟨b, o, none⟩ ∧ 0 ≤ s ∧ s < (rL : Nat) ∧ ∃ x : Int, hcell hv4 b (o + (Int.toNat s) * 1) = some (.int .i64 x) ∧ cnd (decide (x ≥ (0 : Int)))
       (Jv [.int .i64 n] hv4)
       (cnd (!(Option.isNone goneA))
         (∃ b2 o2, goneA = some ⟨b2, o2, none⟩ ∧ 0 ≤ s ∧ s < (goneL : Nat) ∧ ∃ x2 : Bool, hcell hv4 b2 (o2 + (Int.toNat s) * 1) = some (.bool x2) ∧ cnd x2
           (Jv [.int .i64 n] hv4)
           (K hv4))
         (K hv4))) ∧
    ∀ n2 : Int, ∀ hv17, Jv [.int .i64 n2] hv17 →
    Iv [.int .i64 n2, .int .i64 (IntKind.i64.wrap (s + (1 : Int)))] hv17 ∧ m [.int .i64 n2, .int .i64 (IntKind.i64.wrap (s + (1 : Int)))] hv17 < m [.int .i64 n, .int .i64 s] hv4)
    (R (.tuple #[.slice rA rL rC, .int .i64 n]) hv4)
theorem calls36 {h : Heap} {R : Value → Heap → Prop} (g : Int) (gA : Option Addr) (gL gC : Nat) (goneA : Option Addr) (goneL goneC : Nat) (cutA : Option Addr) (cutL cutC : Nat) (H : S36 g gA gL gC goneA goneL goneC cutA cutL cutC h R) : CallsH Try.prog 36 #[.agg #[.int .i64 g, .slice gA gL gC], .slice goneA goneL goneC, .slice cutA cutL cutC] h R := by
  have e : S36 g gA gL gC goneA goneL goneC cutA cutL cutC h R = FX (envX [3, 118] 124) { loops := [(0, ⟨[1, 2, 3, 8, 10], [9, 11], [3], []⟩), (2, ⟨[1, 2, 3, 8, 9, 10, 11], [12], [3], []⟩), (4, ⟨[1, 2, 3, 8, 9, 10, 11, 13], [12, 14], [3], []⟩)], joins := [], blocks := [(1, ⟨[1, 2, 3, 8, 10, 11], [9], [3], []⟩), (5, ⟨[1, 2, 3, 8, 9, 10, 11, 13, 14], [12], [3], []⟩)], draws := [(16, ⟨10, false⟩)] } Try.f36 (Try.f36.body.getD .skip) [.agg #[.int .i64 g, .slice gA gL gC], .slice goneA goneL goneC, .slice cutA cutL cutC] h R := by kernel_rfl
  exact calls_of_FX (envX_ok _ _) Try.func36 (by kernel_rfl) (by kernel_rfl) (by kernel_rfl) (e ▸ H)
/-- tracery/traceryref6.Parts -/
def Ok36 (g : Int) (edgesV : List (Int × Int)) (goneV : List Bool) (goneN : Bool) (cutV : List Bool) (cutN : Bool) (R : List Int → Int → Prop) : Prop :=
  ∀ (h : Heap) (gA : Option Addr) (gL gC : Nat) (goneA : Option Addr) (goneL goneC : Nat) (cutA : Option Addr) (cutL cutC : Nat), Hp h [Ck.vw eP gA gL gC edgesV, Ck.vw eB goneA goneL goneC goneV, Ck.vw eB cutA cutL cutC cutV] → Option.isNone goneA = goneN → Option.isNone cutA = cutN → CallsH Try.prog 36 #[.agg #[.int .i64 g, .slice gA gL gC], .slice goneA goneL goneC, .slice cutA cutL cutC] h fun v h' => ∃ (raVA : Option Addr) (raVL raVC : Nat) (raV : List Int) (rbV : Int), Sy h [] h' [Ck.sl eI 3 raVA raVL raVC raV] ∧ v = .tuple #[.slice raVA raVL raVC, .int .i64 rbV] ∧ R raV rbV
theorem Ok36.mono {g edgesV goneV goneN cutV cutN} {R R' : List Int → Int → Prop} (H : Ok36 g edgesV goneV goneN cutV cutN R) (kz : ∀ raV rbV, R raV rbV → R' raV rbV) : Ok36 g edgesV goneV goneN cutV cutN R' :=
  fun h gA gL gC goneA goneL goneC cutA cutL cutC hp n0 n1 => (H h gA gL gC goneA goneL goneC cutA cutL cutC hp n0 n1).mono fun _ _ ⟨raVA, raVL, raVC, raV, rbV, P, e, q⟩ => ⟨raVA, raVL, raVC, raV, rbV, P, e, kz _ _ q⟩
def T36 (g : Int) (edgesV : List (Int × Int)) (goneV : List Bool) (goneN : Bool) (cutV : List Bool) (cutN : Bool) (R : List Int → Int → Prop) : Prop :=
  Ok127 g (-1) (fun r_2 =>
  Ok54 g edgesV (fun r_3 =>
  ∃ (Iv : Int → Int → List Int → Prop) (m : Int → Int → List Int → Nat), Iv 0 0 r_2 ∧
  ∀ n : Int, ∀ s : Int, ∀ r_2_2 : List Int, Iv n s r_2_2 →
  cnd (decide (s < g))
    (∃ Jv : Int → List Int → Prop,
    ( ∃ Jv_2 : Prop,
     ( 0 ≤ s ∧ s < ((r_2.length : Nat) : Int) ∧ ∀ r_12 : Int, r_2_2[(Int.toNat s)]? = some r_12 → cnd (decide (r_12 ≥ (0 : Int)))
        (Jv n r_2_2)
        (cnd (!(goneN))
          (0 ≤ s ∧ s < ((goneV.length : Nat) : Int) ∧ ∀ gone_2 : Bool, goneV[(Int.toNat s)]? = some gone_2 → cnd gone_2
            (Jv n r_2_2)
            (Jv_2))
          (Jv_2))) ∧
     (Jv_2 →
     0 ≤ s ∧ s < ((r_2.length : Nat) : Int) ∧ ∃ (Iv2 : List Int → List Int → Prop) (m2 : List Int → List Int → Nat), Iv2 ([s] : List Int) (r_2_2.set (Int.toNat s) n) ∧
     ∀ todo : List Int, ∀ r_5 : List Int, Iv2 todo r_5 →
     cnd (decide (((todo.length : Nat) : Int) > (0 : Int)))
       (0 ≤ (IntKind.i64.wrap (((todo.length : Nat) : Int) - (1 : Int))) ∧ (IntKind.i64.wrap (((todo.length : Nat) : Int) - (1 : Int))) < ((todo.length : Nat) : Int) ∧ ∀ todo_2 : Int, todo[(Int.toNat (IntKind.i64.wrap (((todo.length : Nat) : Int) - (1 : Int))))]? = some todo_2 → 0 ≤ (IntKind.i64.wrap (((todo.length : Nat) : Int) - (1 : Int))) ∧ (IntKind.i64.wrap (((todo.length : Nat) : Int) - (1 : Int))) ≤ ((todo.length : Nat) : Int) ∧ ∃ (Iv3 : List Int → Int → List Int → Prop) (m3 : List Int → Int → List Int → Nat), Iv3 (todo.take (Int.toNat (IntKind.i64.wrap (((todo.length : Nat) : Int) - (1 : Int))))) 0 r_5 ∧
       ∀ todo_3 : List Int, ∀ k : Int, ∀ r_5_2 : List Int, Iv3 todo_3 k r_5_2 →
       0 ≤ todo_2 ∧ todo_2 < ((r_3.length : Nat) : Int) ∧ ∀ r_6 : List Int, r_3[(Int.toNat todo_2)]? = some r_6 → cnd (decide (k < ((r_6.length : Nat) : Int)))
         (∃ Jv2 : List Int → List Int → Prop,
         ( 0 ≤ todo_2 ∧ todo_2 < ((r_3.length : Nat) : Int) ∧ ∀ r_8 : List Int, r_3[(Int.toNat todo_2)]? = some r_8 → 0 ≤ k ∧ k < ((r_8.length : Nat) : Int) ∧ ∀ x_2 : Int, r_8[(Int.toNat k)]? = some x_2 → Ok55 g edgesV x_2 (fun r =>
          ∃ Jv_3 : Prop,
          ( ∃ Jv_4 : Bool → Prop,
           ( 0 ≤ r ∧ r < ((r_2.length : Nat) : Int) ∧ ∀ r_11 : Int, r_5_2[(Int.toNat r)]? = some r_11 → cnd (decide (r_11 ≥ (0 : Int)))
              (Jv2 todo_3 r_5_2)
              (cnd (!(goneN))
                (0 ≤ r ∧ r < ((goneV.length : Nat) : Int) ∧ ∀ gone : Bool, goneV[(Int.toNat r)]? = some gone → cnd gone
                  (Jv2 todo_3 r_5_2)
                  (cnd (!(cutN))
                    (0 ≤ k ∧ k < ((r_6.length : Nat) : Int) ∧ ∀ x_3 : Int, r_6[(Int.toNat k)]? = some x_3 → (2 : Int) ≠ 0 ∧ 0 ≤ (IntKind.i64.wrap (Int.tdiv x_3 (2 : Int))) ∧ (IntKind.i64.wrap (Int.tdiv x_3 (2 : Int))) < ((cutV.length : Nat) : Int) ∧ ∀ cut : Bool, cutV[(Int.toNat (IntKind.i64.wrap (Int.tdiv x_3 (2 : Int))))]? = some cut → Jv_4 cut)
                    (Jv_3)))
                (cnd (!(cutN))
                  (0 ≤ k ∧ k < ((r_6.length : Nat) : Int) ∧ ∀ x_4 : Int, r_6[(Int.toNat k)]? = some x_4 → (2 : Int) ≠ 0 ∧ 0 ≤ (IntKind.i64.wrap (Int.tdiv x_4 (2 : Int))) ∧ (IntKind.i64.wrap (Int.tdiv x_4 (2 : Int))) < ((cutV.length : Nat) : Int) ∧ ∀ cut_2 : Bool, cutV[(Int.toNat (IntKind.i64.wrap (Int.tdiv x_4 (2 : Int))))]? = some cut_2 → Jv_4 cut_2)
                  (Jv_3)))) ∧
           ∀ x11 : Bool, Jv_4 x11 →
           cnd x11
             (Jv2 todo_3 r_5_2)
             (Jv_3)) ∧
          (Jv_3 →
          0 ≤ r ∧ r < ((r_2.length : Nat) : Int) ∧ (todo_3.length + 1) < 1000000000000 ∧ Jv2 (todo_3 ++ [r]) (r_5_2.set (Int.toNat r) n)))) ∧
         ∀ todo_4 : List Int, ∀ r_5_2_2 : List Int, Jv2 todo_4 r_5_2_2 →
         Iv3 todo_4 (IntKind.i64.wrap (k + (1 : Int))) r_5_2_2 ∧ m3 todo_4 (IntKind.i64.wrap (k + (1 : Int))) r_5_2_2 < m3 todo_3 k r_5_2)
         (Iv2 todo_3 r_5_2 ∧ m2 todo_3 r_5_2 < m2 todo r_5))
       (Jv (IntKind.i64.wrap (n + (1 : Int))) r_5))) ∧
    ∀ n2 : Int, ∀ r_2_2_2 : List Int, Jv n2 r_2_2_2 →
    Iv n2 (IntKind.i64.wrap (s + (1 : Int))) r_2_2_2 ∧ m n2 (IntKind.i64.wrap (s + (1 : Int))) r_2_2_2 < m n s r_2_2)
    (R r_2_2 n)))
theorem ok36 {g edgesV goneV goneN cutV cutN} {R : List Int → Int → Prop} (T : T36 g edgesV goneV goneN cutV cutN R) : Ok36 g edgesV goneV goneN cutV cutN R := by
  intro h gA gL gC goneA goneL goneC cutA cutL cutC H hgoneN hcutN
  have Y : Sy h [] h _ := Sy.startM H rfl
  obtain rfl := Y.lenV 0 rfl
  obtain rfl := Y.lenV 1 rfl
  obtain rfl := Y.lenV 2 rfl
  apply calls36
  unfold S36
  unfold T36 at T
  intro hv
  have Y : Sy _ _ hv [_, _, _, _] := Y.junk _
  clear_value hv
  refine callX_sy (T _ (Hp.nil _)) (fun _ _ ⟨_, _, _, _, p, _⟩ => p.fr) (allc (fun h => by cases h) alln) ?_
  rintro v hv2 ⟨rA, rL, rC, r_2, PP, rfl, T⟩
  have Y : Sy _ _ hv2 [_, _, _, _, _] := Y.callV PP ⟨rfl, trivial⟩
  clear PP
  obtain rfl := Y.lenS 4 rfl
  refine ⟨_, _, _, rfl, ?_⟩
  refine callX_sy (T _ _ _ _ (Y.pick [0] rfl).hp) (fun _ _ ⟨_, _, _, _, _, p, _⟩ => p.fr) (allc (fun h => by cases h) alln) ?_
  rintro v2 hv3 ⟨rA2, rL2, rC2, rH, r_3, PP, rfl, T⟩
  have Y : Sy _ _ hv3 [_, _, _, _, _, _] := Y.callV PP ⟨rfl, trivial⟩
  clear PP
  obtain rfl := Y.lenR 5 rfl
  refine ⟨_, _, _, rfl, ?_⟩
  obtain ⟨Iv, m, T0, T1⟩ := T
  obtain ⟨B, hB, YB⟩ := Y.cut [4] [0, 1, 2, 3, 5] rfl
  obtain ⟨F, hF⟩ := Y.fnS (k := 4) rfl
  obtain ⟨JJ, hJJ⟩ : ∃ JJ : Nat → List Value → Heap → Prop, JJ = (fun k_2 lz h' => ∃ (n : Int) (s : Int) (r_2_2 : List Int), lz = [.int .i64 n, .int .i64 s] ∧ Sy h [] h' ([F r_2_2] ++ B) ∧ Iv n s r_2_2 ∧ m n s r_2_2 = k_2) := ⟨_, rfl⟩
  refine ⟨fun lz h' => ∃ k_2, JJ k_2 lz h', Lm JJ, ?_, ?_⟩
  · subst hJJ hB hF
    exact ⟨_, _, _, _, rfl, YB, T0, rfl⟩
  · clear YB T0 Y
    intro n s hv4 hI
    obtain ⟨k_2, hI, hm⟩ := loopIn hI
    subst hJJ hB hF
    obtain ⟨n, s, r_2_2, e, Y, T, rfl⟩ := hI
    cases e
    replace T := T1 n s r_2_2 T
    have Y : Sy _ _ _ [_, _, _, _, _, _] := Y
    refine cnd_imp T (fun T => ?_) (fun T => ?_)
    · obtain ⟨Jv, T0, T1⟩ := T
      obtain ⟨B_2, hB_2, _⟩ := Y.cut [] [1, 2, 3, 4, 5] rfl
      obtain ⟨F_2, hF_2⟩ := Y.fnS (k := 0) rfl
      refine ⟨fun lz h' => ∃ (n2 : Int) (r_2_2_2 : List Int), lz = [.int .i64 n2] ∧ Sy h [] h' ([F_2 r_2_2_2] ++ B_2) ∧ Jv n2 r_2_2_2, ?_, ?_⟩
      · subst hB_2 hF_2
        replace T := T0
        clear T0 T1
        obtain ⟨Jv_2, T0, T1⟩ := T
        obtain ⟨B_3, hB_3, _⟩ := Y.cut [] [0, 1, 2, 3, 4, 5] rfl
        intro K
        have hK : ∀  (hv5 : Heap), (Sy h [] hv5 ([] ++ B_3) ∧ Jv_2) → K hv5 := by
          subst hB_3
          clear T0 Y
          rintro hv5 ⟨Y, T⟩
          replace T := T1 T
          have Y : Sy _ _ _ [_, _, _, _, _, _] := Y
          unfold K
          intro hv6
          have Y : Sy _ _ hv6 [_, _, _, _, _, _, _] := Y.litS (E := eI) (ty := 3) ([s] : List Int) rfl (by simp [maxLen])
          clear_value hv6
          obtain ⟨q, q_2, T⟩ := T
          obtain ⟨b_2, hb, ho, r_4, hx⟩ := Y.atS 0 rfl q q_2
          refine ⟨b_2, 0, hb, q, q_2, ?_⟩
          refine ⟨(Y.neJ 0 4 rfl rfl rfl ho), Y.cellEx 0 rfl hb (t := 0) (by omega) (by decide), Y.freeS 0 rfl hb _, ?_⟩
          intro hv7
          have Y : Sy _ _ hv7 [_, _, _, _, _, _, _] := Y.st1 0 rfl hb n (by omega) rfl
          clear_value hv7
          obtain ⟨Iv2, m2, T0, T1⟩ := T
          obtain ⟨B_4, hB_4, YB⟩ := Y.cut [6, 0] [1, 2, 3, 4, 5] rfl
          obtain ⟨F_3, hF_3⟩ := Y.fnS (k := 0) rfl
          obtain ⟨JJ_2, hJJ_2⟩ : ∃ JJ_2 : Nat → List Value → Heap → Prop, JJ_2 = (fun k_3 lz h' => ∃ (todoA : Option Addr) (todoL todoC : Nat) (todo : List Int) (r_5 : List Int), lz = [.slice todoA todoL todoC] ∧ Sy h [] h' ([Ck.sl eI 3 todoA todoL todoC todo, F_3 r_5] ++ B_4) ∧ Iv2 todo r_5 ∧ m2 todo r_5 = k_3) := ⟨_, rfl⟩
          refine ⟨fun lz h' => ∃ k_3, JJ_2 k_3 lz h', Lm JJ_2, ?_, ?_⟩
          · subst hJJ_2 hB_4 hF_3
            exact ⟨_, _, _, _, _, _, rfl, YB, T0, rfl⟩
          · clear YB T0 Y
            intro todoA todoL todoC hv8 hI
            obtain ⟨k_3, hI, hm_2⟩ := loopIn hI
            subst hJJ_2 hB_4 hF_3
            obtain ⟨todoA, todoL, todoC, todo, r_5, e, Y, T, rfl⟩ := hI
            cases e
            obtain rfl := Y.lenS 0 rfl
            replace T := T1 todo r_5 T
            have Y : Sy _ _ _ [_, _, _, _, _, _, _] := Y
            refine cnd_imp T (fun T => ?_) (fun T => ?_)
            · obtain ⟨q_3, q_4, T⟩ := T
              obtain ⟨b_3, hb_2, ho_2, todo_2, hx_2⟩ := Y.atS 0 rfl q_3 q_4
              refine ⟨b_3, 0, hb_2, q_3, q_4, ?_⟩
              replace T := T todo_2 hx_2
              refine ⟨_, Y.cellS 0 rfl hb_2 (t := 0) hx_2 rfl, ?_⟩
              obtain ⟨q_5, q_6, T⟩ := T
              refine ⟨q_5, (by have := (Y.capS 0 rfl).1; omega), ?_⟩
              try rw [slice0]
              have Y : Sy _ _ _ [_, _, _, _, _, _, _] := Y.shrS 0 rfl (Int.toNat (IntKind.i64.wrap (((todo.length : Nat) : Int) - (1 : Int)))) (by omega)
              obtain ⟨Iv3, m3, T0, T1⟩ := T
              obtain ⟨B_5, hB_5, YB⟩ := Y.cut [0, 1] [2, 3, 4, 5, 6] rfl
              obtain ⟨F_4, hF_4⟩ := Y.fnS (k := 1) rfl
              obtain ⟨JJ_3, hJJ_3⟩ : ∃ JJ_3 : Nat → List Value → Heap → Prop, JJ_3 = (fun k_4 lz h' => ∃ (todoA2 : Option Addr) (todoL2 todoC2 : Nat) (todo_3 : List Int) (k : Int) (r_5_2 : List Int), lz = [.slice todoA2 todoL2 todoC2, .int .i64 k] ∧ Sy h [] h' ([Ck.sl eI 3 todoA2 todoL2 todoC2 todo_3, F_4 r_5_2] ++ B_5) ∧ Iv3 todo_3 k r_5_2 ∧ m3 todo_3 k r_5_2 = k_4) := ⟨_, rfl⟩
              refine ⟨fun lz h' => ∃ k_4, JJ_3 k_4 lz h', Lm JJ_3, ?_, ?_⟩
              · subst hJJ_3 hB_5 hF_4
                exact ⟨_, _, _, _, _, _, _, rfl, YB, T0, rfl⟩
              · clear YB T0 Y
                intro todoA2 todoL2 todoC2 k hv9 hI
                obtain ⟨k_4, hI, hm_3⟩ := loopIn hI
                subst hJJ_3 hB_5 hF_4
                obtain ⟨todoA2, todoL2, todoC2, todo_3, k, r_5_2, e, Y, T, rfl⟩ := hI
                cases e
                obtain rfl := Y.lenS 0 rfl
                replace T := T1 todo_3 k r_5_2 T
                have Y : Sy _ _ _ [_, _, _, _, _, _, _] := Y
                obtain ⟨q_7, q_8, T⟩ := T
                obtain ⟨b_4, hb_3, ho_3, r_6, hx_3, r_7, hr⟩ := Y.atR 6 rfl q_7 q_8
                refine ⟨b_4, 0, hb_3, q_7, q_8, ?_⟩
                replace T := T r_6 hx_3
                refine ⟨_, _, _, Y.cellR 6 rfl hb_3 hr hx_3, ?_⟩
                refine cnd_imp T (fun T => ?_) (fun T => ?_)
                · obtain ⟨Jv2, T0, T1⟩ := T
                  obtain ⟨B_6, hB_6, _⟩ := Y.cut [] [2, 3, 4, 5, 6] rfl
                  obtain ⟨F_5, hF_5⟩ := Y.fnS (k := 1) rfl
                  refine ⟨fun lz h' => ∃ (todoA3 : Option Addr) (todoL3 todoC3 : Nat) (todo_4 : List Int) (r_5_2_2 : List Int), lz = [.slice todoA3 todoL3 todoC3] ∧ Sy h [] h' ([Ck.sl eI 3 todoA3 todoL3 todoC3 todo_4, F_5 r_5_2_2] ++ B_6) ∧ Jv2 todo_4 r_5_2_2, ?_, ?_⟩
                  · subst hB_6 hF_5
                    replace T := T0
                    clear T0 T1
                    have Y0 := Y
                    have F : Fr [] hv9 hv9 := Fr.refl _ _
                    obtain ⟨q_9, q_10, T⟩ := T
                    obtain ⟨b_5, hb_4, ho_4, r_8, hx_4, r_9, hr_2⟩ := Y0.atR 6 rfl q_9 q_10
                    refine ⟨b_5, 0, hb_4, q_9, q_10, ?_⟩
                    replace T := T r_8 hx_4
                    refine ⟨_, _, _, Y0.cellR 6 rfl hb_4 hr_2 hx_4, ?_⟩
                    obtain ⟨q_11, q_12, T⟩ := T
                    obtain ⟨b_6, hb_5, ho_5, x_2, hx_5⟩ := Y0.atRow 6 rfl hr_2 hx_4 q_11 q_12
                    refine ⟨b_6, 0, hb_5, q_11, q_12, ?_⟩
                    replace T := T x_2 hx_5
                    refine ⟨_, Y0.cellRow 6 rfl hr_2 hx_4 hb_5 (t := 0) hx_5 rfl, ?_⟩
                    refine callX_sy (T _ _ _ _ (Y.pick [2] rfl).hp) (fun _ _ ⟨_, p, _⟩ => p.fr) (allc (fun h => by cases h) alln) ?_
                    rintro v3 hv10 ⟨r, PP, rfl, T⟩
                    have F : Fr _ _ hv10 := F.trans PP.fr.nil
                    have fshv10 := F.size
                    have Y : Sy _ _ hv10 [_, _, _, _, _, _, _] := Y.gr PP.fr
                    clear PP
                    refine ⟨r, rfl, ?_⟩
                    refine ⟨F, ?_⟩
                    obtain ⟨Jv_3, T0, T1⟩ := T
                    obtain ⟨B_7, hB_7, _⟩ := Y.cut [] [0, 1, 2, 3, 4, 5, 6] rfl
                    intro K3
                    have hK3 : ∀  (hv12 : Heap), (Sy h [] hv12 ([] ++ B_7) ∧ Jv_3) → K3 hv12 := by
                      subst hB_7
                      clear T0 Y
                      rintro hv12 ⟨Y, T⟩
                      replace T := T1 T
                      have Y : Sy _ _ _ [_, _, _, _, _, _, _] := Y
                      unfold K3
                      obtain ⟨q_13, q_14, T⟩ := T
                      obtain ⟨b_7, hb_6, ho_6, r_10, hx_6⟩ := Y.atS 1 rfl q_13 q_14
                      refine ⟨b_7, 0, hb_6, q_13, q_14, ?_⟩
                      refine ⟨(Y.neJ 1 5 rfl rfl rfl ho_6), Y.cellEx 1 rfl hb_6 (t := 0) (by omega) (by decide), Y.freeS 1 rfl hb_6 _, ?_⟩
                      intro hv13
                      have Y : Sy _ _ hv13 [_, _, _, _, _, _, _] := Y.st1 1 rfl hb_6 n (by omega) rfl
                      clear_value hv13
                      intro hv14
                      have Y : Sy _ _ hv14 [_, _, _, _, _, _, _, _] := Y.junk _
                      clear_value hv14
                      obtain ⟨q_15, T⟩ := T
                      refine ⟨_, Y.ownS 0 rfl, (allc (Y.nJ 0 7 rfl rfl rfl) (allc (Y.nJ 0 5 rfl rfl rfl) alln)), by first | exact appB q_15 (by decide) | omega, by first | exact appM q_15 | (simp [maxLen]; omega), ?_⟩
                      intro sA sC hv15 ow fA gA gB
                      have Y : Sy _ _ hv15 [_, _, _, _, _, _, _, _] := Y.appS 0 rfl ([r] : List Int) ow fA gA rfl rfl
                      exact ⟨_, _, _, _, _, rfl, Y.pick [0, 1, 2, 3, 4, 5, 6] rfl, T⟩
                    subst hB_7
                    replace T := T0
                    clear T0 T1
                    obtain ⟨Jv_4, T0, T1⟩ := T
                    obtain ⟨B_8, hB_8, _⟩ := Y.cut [] [0, 1, 2, 3, 4, 5, 6] rfl
                    intro K2
                    have hK2 : ∀ (x11 : Bool) (hv11 : Heap), (Sy h [] hv11 ([] ++ B_8) ∧ Jv_4 x11) → K2 x11 hv11 := by
                      subst hB_8
                      clear T0 Y
                      rintro x11 hv11 ⟨Y, T⟩
                      replace T := T1 x11 T
                      have Y : Sy _ _ _ [_, _, _, _, _, _, _] := Y
                      unfold K2
                      refine cnd_imp T (fun T => ?_) (fun T => ?_)
                      · exact ⟨_, _, _, _, _, rfl, Y.pick [0, 1, 2, 3, 4, 5, 6] rfl, T⟩
                      · exact hK3 _ ⟨Y.pick [0, 1, 2, 3, 4, 5, 6] rfl, T⟩
                    subst hB_8
                    replace T := T0
                    clear T0 T1
                    obtain ⟨q_16, q_17, T⟩ := T
                    obtain ⟨b_8, hb_7, ho_7, r_11, hx_7⟩ := Y.atS 1 rfl q_16 q_17
                    refine ⟨b_8, 0, hb_7, q_16, q_17, ?_⟩
                    replace T := T r_11 hx_7
                    refine ⟨_, Y.cellS 1 rfl hb_7 (t := 0) hx_7 rfl, ?_⟩
                    refine cnd_imp T (fun T => ?_) (fun T => ?_)
                    · exact ⟨_, _, _, _, _, rfl, Y.pick [0, 1, 2, 3, 4, 5, 6] rfl, T⟩
                    · try rw [hgoneN]
                      refine cnd_imp T (fun T => ?_) (fun T => ?_)
                      · obtain ⟨q_18, q_19, T⟩ := T
                        obtain ⟨b_9, o_2, hb_8, hr_3, gone, hx_8⟩ := Y.atV 3 rfl q_18 q_19
                        refine ⟨b_9, o_2, hb_8, q_18, q_19, ?_⟩
                        replace T := T gone hx_8
                        refine ⟨_, Y.cellV 3 rfl hb_8 (t := 0) hx_8 rfl, ?_⟩
                        refine cnd_imp T (fun T => ?_) (fun T => ?_)
                        · exact ⟨_, _, _, _, _, rfl, Y.pick [0, 1, 2, 3, 4, 5, 6] rfl, T⟩
                        · try rw [hcutN]
                          refine cnd_imp T (fun T => ?_) (fun T => ?_)
                          · refine ⟨b_4, 0, hb_3, q_7, q_8, ?_⟩
                            refine ⟨_, _, _, Y.cellR 6 rfl hb_3 hr hx_3, ?_⟩
                            obtain ⟨q_20, q_21, T⟩ := T
                            obtain ⟨b_10, hb_9, ho_8, x_3, hx_9⟩ := Y.atRow 6 rfl hr hx_3 q_20 q_21
                            refine ⟨b_10, 0, hb_9, q_20, q_21, ?_⟩
                            replace T := T x_3 hx_9
                            refine ⟨_, Y.cellRow 6 rfl hr hx_3 hb_9 (t := 0) hx_9 rfl, ?_⟩
                            obtain ⟨q_24, T⟩ := T
                            refine ⟨q_24, ?_⟩
                            obtain ⟨q_22, q_23, T⟩ := T
                            obtain ⟨b_11, o_3, hb_10, hr_4, cut, hx_10⟩ := Y.atV 4 rfl q_22 q_23
                            refine ⟨b_11, o_3, hb_10, q_22, q_23, ?_⟩
                            replace T := T cut hx_10
                            refine ⟨_, Y.cellV 4 rfl hb_10 (t := 0) hx_10 rfl, ?_⟩
                            exact hK2 _ _ ⟨Y.pick [0, 1, 2, 3, 4, 5, 6] rfl, T⟩
                          · exact hK3 _ ⟨Y.pick [0, 1, 2, 3, 4, 5, 6] rfl, T⟩
                      · try rw [hcutN]
                        refine cnd_imp T (fun T => ?_) (fun T => ?_)
                        · refine ⟨b_4, 0, hb_3, q_7, q_8, ?_⟩
                          refine ⟨_, _, _, Y.cellR 6 rfl hb_3 hr hx_3, ?_⟩
                          obtain ⟨q_25, q_26, T⟩ := T
                          obtain ⟨b_12, hb_11, ho_9, x_4, hx_11⟩ := Y.atRow 6 rfl hr hx_3 q_25 q_26
                          refine ⟨b_12, 0, hb_11, q_25, q_26, ?_⟩
                          replace T := T x_4 hx_11
                          refine ⟨_, Y.cellRow 6 rfl hr hx_3 hb_11 (t := 0) hx_11 rfl, ?_⟩
                          obtain ⟨q_29, T⟩ := T
                          refine ⟨q_29, ?_⟩
                          obtain ⟨q_27, q_28, T⟩ := T
                          obtain ⟨b_13, o_4, hb_12, hr_5, cut_2, hx_12⟩ := Y.atV 4 rfl q_27 q_28
                          refine ⟨b_13, o_4, hb_12, q_27, q_28, ?_⟩
                          replace T := T cut_2 hx_12
                          refine ⟨_, Y.cellV 4 rfl hb_12 (t := 0) hx_12 rfl, ?_⟩
                          exact hK2 _ _ ⟨Y.pick [0, 1, 2, 3, 4, 5, 6] rfl, T⟩
                        · exact hK3 _ ⟨Y.pick [0, 1, 2, 3, 4, 5, 6] rfl, T⟩
                  · subst hB_6 hF_5
                    clear T0 Y
                    rintro todoA3 todoL3 todoC3 hv16 ⟨todoA3, todoL3, todoC3, todo_4, r_5_2_2, e, Y, T⟩
                    cases e
                    obtain rfl := Y.lenS 0 rfl
                    replace T := T1 todo_4 r_5_2_2 T
                    have Y : Sy _ _ _ [_, _, _, _, _, _, _] := Y
                    exact loopBack hm_3 ⟨_, _, _, _, _, _, rfl, Y.pick [0, 1, 2, 3, 4, 5, 6] rfl, T.1, rfl⟩ T.2
                · exact loopBack hm_2 ⟨_, _, _, _, _, rfl, Y.pick [0, 1, 2, 3, 4, 5, 6] rfl, T.1, rfl⟩ T.2
            · exact ⟨_, _, rfl, Y.pick [1, 2, 3, 4, 5, 6] rfl, T⟩
        subst hB_3
        replace T := T0
        clear T0 T1
        obtain ⟨q_30, q_31, T⟩ := T
        obtain ⟨b_14, hb_13, ho_10, r_12, hx_13⟩ := Y.atS 0 rfl q_30 q_31
        refine ⟨b_14, 0, hb_13, q_30, q_31, ?_⟩
        replace T := T r_12 hx_13
        refine ⟨_, Y.cellS 0 rfl hb_13 (t := 0) hx_13 rfl, ?_⟩
        refine cnd_imp T (fun T => ?_) (fun T => ?_)
        · exact ⟨_, _, rfl, Y.pick [0, 1, 2, 3, 4, 5] rfl, T⟩
        · try rw [hgoneN]
          refine cnd_imp T (fun T => ?_) (fun T => ?_)
          · obtain ⟨q_32, q_33, T⟩ := T
            obtain ⟨b_15, o_5, hb_14, hr_6, gone_2, hx_14⟩ := Y.atV 2 rfl q_32 q_33
            refine ⟨b_15, o_5, hb_14, q_32, q_33, ?_⟩
            replace T := T gone_2 hx_14
            refine ⟨_, Y.cellV 2 rfl hb_14 (t := 0) hx_14 rfl, ?_⟩
            refine cnd_imp T (fun T => ?_) (fun T => ?_)
            · exact ⟨_, _, rfl, Y.pick [0, 1, 2, 3, 4, 5] rfl, T⟩
            · exact hK _ ⟨Y.pick [0, 1, 2, 3, 4, 5] rfl, T⟩
          · exact hK _ ⟨Y.pick [0, 1, 2, 3, 4, 5] rfl, T⟩
      · subst hB_2 hF_2
        clear T0 Y
        rintro n2 hv17 ⟨n2, r_2_2_2, e, Y, T⟩
        cases e
        replace T := T1 n2 r_2_2_2 T
        have Y : Sy _ _ _ [_, _, _, _, _, _] := Y
        exact loopBack hm ⟨_, _, _, rfl, Y.pick [0, 1, 2, 3, 4, 5] rfl, T.1, rfl⟩ T.2
    · exact ⟨_, _, _, _, _, Y.pick [0] rfl, rfl, T⟩
/-- tracery/traceryref3.Same -/
def S40 (a : Int) (aA : Option Addr) (aL aC : Nat) (b : Int) (bA : Option Addr) (bL bC : Nat) (h : Heap) (R : Value → Heap → Prop) : Prop :=
  let hv : Heap := h.push (.cells #[.int .i64 a, .slice aA aL aC] 26)
  let hv2 : Heap := hv.push (.cells #[.int .i64 b, .slice bA bL bC] 26)
  cnd (a != b)
    (R (.bool false) hv2)
    (cnd (((aL : Nat) : Int) != ((bL : Nat) : Int))
      (R (.bool false) hv2)
      (∃ (Iv : List Value → Heap → Prop) (m : List Value → Heap → Nat), Iv [.int .i64 0] hv2 ∧ -- loop 0: ['i']
      ∀ i : Int, ∀ hv3, Iv [.int .i64 i] hv3 →
      cnd (decide (i < ((aL : Nat) : Int)))
        (∃ b2 o, aA = some ⟨b2, o, none⟩ ∧ 0 ≤ i ∧ i < (aL : Nat) ∧ ∃ x : Int, hcell hv3 b2 (o + (Int.toNat i) * 2) = some (.int .i64 x) ∧ ∃ x2 : Int, hcell hv3 b2 ((o + (Int.toNat i) * 2) + 1) = some (.int .i64 x2) ∧ ∃ b3 o2, bA = some ⟨b3, o2, none⟩ ∧ 0 ≤ i ∧ i < (bL : Nat) ∧ ∃ x3 : Int, hcell hv3 b3 (o2 + (Int.toNat i) * 2) = some (.int .i64 x3) ∧ ∃ x4 : Int, hcell hv3 b3 ((o2 + (Int.toNat i) * 2) + 1) = some (.int .i64 x4) ∧ cnd (!((x == x3) && (x2 == x4)))
          (R (.bool false) hv3)
          (Iv [.int .i64 (IntKind.i64.wrap (i + (1 : Int)))] hv3 ∧ m [.int .i64 (IntKind.i64.wrap (i + (1 : Int)))] hv3 < m [.int .i64 i] hv3))
        (R (.bool true) hv3)))
theorem calls40 {h : Heap} {R : Value → Heap → Prop} (a : Int) (aA : Option Addr) (aL aC : Nat) (b : Int) (bA : Option Addr) (bL bC : Nat) (H : S40 a aA aL aC b bA bL bC h R) : CallsH Try.prog 40 #[.agg #[.int .i64 a, .slice aA aL aC], .agg #[.int .i64 b, .slice bA bL bC]] h R := by
  have e : S40 a aA aL aC b bA bL bC h R = FX (envX [2, 3] 38) { loops := [(0, ⟨[2, 3], [5], [2, 3], []⟩)], joins := [], blocks := [], draws := [(6, ⟨11, false⟩)] } Try.f40 (Try.f40.body.getD .skip) [.agg #[.int .i64 a, .slice aA aL aC], .agg #[.int .i64 b, .slice bA bL bC]] h R := by kernel_rfl
  exact calls_of_FX (envX_ok _ _) Try.func40 (by kernel_rfl) (by kernel_rfl) (by kernel_rfl) (e ▸ H)
/-- tracery/traceryref3.Same -/
def Ok40 (a : Int) (edgesV : List (Int × Int)) (b : Int) (edgesV2 : List (Int × Int)) (R : Bool → Prop) : Prop :=
  ∀ (h : Heap) (aA : Option Addr) (aL aC : Nat) (bA : Option Addr) (bL bC : Nat), Hp h [Ck.vw eP aA aL aC edgesV, Ck.vw eP bA bL bC edgesV2] → CallsH Try.prog 40 #[.agg #[.int .i64 a, .slice aA aL aC], .agg #[.int .i64 b, .slice bA bL bC]] h fun v h' => ∃ (rV : Bool), Sy h [] h' [] ∧ v = .bool rV ∧ R rV
theorem Ok40.mono {a edgesV b edgesV2} {R R' : Bool → Prop} (H : Ok40 a edgesV b edgesV2 R) (kz : ∀ rV, R rV → R' rV) : Ok40 a edgesV b edgesV2 R' :=
  fun h aA aL aC bA bL bC hp => (H h aA aL aC bA bL bC hp).mono fun _ _ ⟨rV, P, e, q⟩ => ⟨rV, P, e, kz _ q⟩
def T40 (a : Int) (edgesV : List (Int × Int)) (b : Int) (edgesV2 : List (Int × Int)) (R : Bool → Prop) : Prop :=
  cnd (a != b)
    (R false)
    (cnd (((edgesV.length : Nat) : Int) != ((edgesV2.length : Nat) : Int))
      (R false)
      (∃ (Iv : Int → Prop) (m : Int → Nat), Iv 0 ∧
      ∀ i : Int, Iv i →
      cnd (decide (i < ((edgesV.length : Nat) : Int)))
        (0 ≤ i ∧ i < ((edgesV.length : Nat) : Int) ∧ ∀ a_2 : (Int × Int), edgesV[(Int.toNat i)]? = some a_2 → 0 ≤ i ∧ i < ((edgesV2.length : Nat) : Int) ∧ ∀ b_4 : (Int × Int), edgesV2[(Int.toNat i)]? = some b_4 → cnd (!((a_2.1 == b_4.1) && (a_2.2 == b_4.2)))
          (R false)
          (Iv (IntKind.i64.wrap (i + (1 : Int))) ∧ m (IntKind.i64.wrap (i + (1 : Int))) < m i))
        (R true)))
theorem ok40 {a edgesV b edgesV2} {R : Bool → Prop} (T : T40 a edgesV b edgesV2 R) : Ok40 a edgesV b edgesV2 R := by
  intro h aA aL aC bA bL bC H
  have Y : Sy h [] h _ := Sy.startM H rfl
  obtain rfl := Y.lenV 0 rfl
  obtain rfl := Y.lenV 1 rfl
  apply calls40
  unfold S40
  unfold T40 at T
  intro hv
  have Y : Sy _ _ hv [_, _, _] := Y.junk _
  clear_value hv
  intro hv2
  have Y : Sy _ _ hv2 [_, _, _, _] := Y.junk _
  clear_value hv2
  refine cnd_imp T (fun T => ?_) (fun T => ?_)
  · exact ⟨_, Y.pick [] rfl, rfl, T⟩
  · refine cnd_imp T (fun T => ?_) (fun T => ?_)
    · exact ⟨_, Y.pick [] rfl, rfl, T⟩
    · obtain ⟨Iv, m, T0, T1⟩ := T
      obtain ⟨B, hB, YB⟩ := Y.cut [] [0, 1, 2, 3] rfl
      obtain ⟨JJ, hJJ⟩ : ∃ JJ : Nat → List Value → Heap → Prop, JJ = (fun k lz h' => ∃ (i : Int), lz = [.int .i64 i] ∧ Sy h [] h' ([] ++ B) ∧ Iv i ∧ m i = k) := ⟨_, rfl⟩
      refine ⟨fun lz h' => ∃ k, JJ k lz h', Lm JJ, ?_, ?_⟩
      · subst hJJ hB
        exact ⟨_, _, rfl, YB, T0, rfl⟩
      · clear YB T0 Y
        intro i hv3 hI
        obtain ⟨k, hI, hm⟩ := loopIn hI
        subst hJJ hB
        obtain ⟨i, e, Y, T, rfl⟩ := hI
        cases e
        replace T := T1 i T
        have Y : Sy _ _ _ [_, _, _, _] := Y
        refine cnd_imp T (fun T => ?_) (fun T => ?_)
        · have Y0 := Y
          have F : Fr [] hv3 hv3 := Fr.refl _ _
          obtain ⟨q, q_2, T⟩ := T
          obtain ⟨b_2, o_2, hb, hr, a_2, hx⟩ := Y0.atV 0 rfl q q_2
          refine ⟨b_2, o_2, hb, q, q_2, ?_⟩
          replace T := T a_2 hx
          refine ⟨_, Y0.cellV 0 rfl hb (t := 0) hx rfl, ?_⟩
          refine ⟨_, Y0.cellV 0 rfl hb (t := 1) hx rfl, ?_⟩
          obtain ⟨q_3, q_4, T⟩ := T
          obtain ⟨b_3, o_3, hb_2, hr_2, b_4, hx_2⟩ := Y0.atV 1 rfl q_3 q_4
          refine ⟨b_3, o_3, hb_2, q_3, q_4, ?_⟩
          replace T := T b_4 hx_2
          refine ⟨_, Y0.cellV 1 rfl hb_2 (t := 0) hx_2 rfl, ?_⟩
          refine ⟨_, Y0.cellV 1 rfl hb_2 (t := 1) hx_2 rfl, ?_⟩
          refine cnd_imp T (fun T => ?_) (fun T => ?_)
          · exact ⟨_, Y.pick [] rfl, rfl, T⟩
          · exact loopBack hm ⟨_, rfl, Y.pick [0, 1, 2, 3] rfl, T.1, rfl⟩ T.2
        · exact ⟨_, Y.pick [] rfl, rfl, T⟩
/-- tracery/tracerylaw3.Room -/
def S139 (n : Int) (all : Int) (h : Heap) (R : Value → Heap → Prop) : Prop :=
  R (.int .i64 (if (IntKind.i64.wrap (n + (2000 : Int))) < all then (IntKind.i64.wrap (n + (2000 : Int))) else all)) h
theorem calls139 {h : Heap} {R : Value → Heap → Prop} (n : Int) (all : Int) (H : S139 n all h R) : CallsH Try.prog 139 #[.int .i64 n, .int .i64 all] h R := by
  have e : S139 n all h R = FX (envX [] 9) { loops := [], joins := [], blocks := [], draws := [] } Try.f139 (Try.f139.body.getD .skip) [.int .i64 n, .int .i64 all] h R := by kernel_rfl
  exact calls_of_FX (envX_ok _ _) Try.func139 (by kernel_rfl) (by kernel_rfl) (by kernel_rfl) (e ▸ H)
/-- tracery/tracerylaw3.Room -/
def Ok139 (n : Int) (all : Int) (R : Int → Prop) : Prop :=
  ∀ (h : Heap), Hp h [] → CallsH Try.prog 139 #[.int .i64 n, .int .i64 all] h fun v h' => ∃ (rV : Int), Sy h [] h' [] ∧ v = .int .i64 rV ∧ R rV
theorem Ok139.mono {n all} {R R' : Int → Prop} (H : Ok139 n all R) (kz : ∀ rV, R rV → R' rV) : Ok139 n all R' :=
  fun h  hp => (H h  hp).mono fun _ _ ⟨rV, P, e, q⟩ => ⟨rV, P, e, kz _ q⟩
def T139 (n : Int) (all : Int) (R : Int → Prop) : Prop :=
  R (if (IntKind.i64.wrap (n + (2000 : Int))) < all then (IntKind.i64.wrap (n + (2000 : Int))) else all)
theorem ok139 {n all} {R : Int → Prop} (T : T139 n all R) : Ok139 n all R := by
  intro h  H
  have Y : Sy h [] h _ := Sy.startM H rfl
  apply calls139
  unfold S139
  unfold T139 at T
  exact ⟨_, Y.pick [] rfl, rfl, T⟩
end Go.Proofs.Ytmcloipjlihhlaa.N
