/- Functions: what is left to be shown of each, over memory and without: printed by program, tied to the loaded functions by the kernel. Conditions: none. -/
import Derived.Test.YtmcloipjlihhlaaSEnv
import Derived.Test.YtmcloipjlihhlaaYMore
namespace Go.Proofs.Ytmcloipjlihhlaa.N
open Go.Proofs.Ytmcloipjlihhlaa
open Go.X
set_option maxRecDepth 100000
set_option linter.unusedVariables false
set_option linter.unusedSimpArgs false
set_option maxHeartbeats 2000000

/-- tracery/traceryref3.May -/
def S43 (g : Int) (gA : Option Addr) (gL gC : Nat) (h : Heap) (R : Value → Heap → Prop) : Prop :=
  let hv : Heap := h.push (.cells #[.int .i64 g, .slice gA gL gC] 26)
  let K := fun (hv2 : Heap) =>
    (R (.bool false) hv2)
  cnd (decide (g < (0 : Int)))
    (K hv)
    (cnd (decide (g > (1024 : Int)))
      (K hv)
      (cnd (decide (((gL : Nat) : Int) > (3072 : Int)))
        (R (.bool false) hv)
        (∃ (Iv : List Value → Heap → Prop) (m : List Value → Heap → Nat), Iv [.int .i64 0] hv ∧ -- loop 0: ['i']
        ∀ i : Int, ∀ hv3, Iv [.int .i64 i] hv3 →
        cnd (decide (i < ((gL : Nat) : Int)))
          (∃ (Iv2 : List Value → Heap → Prop) (m2 : List Value → Heap → Nat), Iv2 [.int .i64 0] hv3 ∧ -- loop 2: ['k']
          ∀ k : Int, ∀ hv4, Iv2 [.int .i64 k] hv4 →
          cnd (decide (k < (2 : Int)))
            (∃ b o, gA = some ⟨b, o, none⟩ ∧ 0 ≤ i ∧ i < (gL : Nat) ∧ 0 ≤ k ∧ k < ((2 : Nat) : Int) ∧ ∃ x : Int, hcell hv4 b ((o + (Int.toNat i) * 2) + (Int.toNat k) * 1) = some (.int .i64 x) ∧ cnd (decide (x < (0 : Int)))
              (R (.bool false) hv4)
              (∃ b2 o2, gA = some ⟨b2, o2, none⟩ ∧ 0 ≤ i ∧ i < (gL : Nat) ∧ 0 ≤ k ∧ k < ((2 : Nat) : Int) ∧ ∃ x2 : Int, hcell hv4 b2 ((o2 + (Int.toNat i) * 2) + (Int.toNat k) * 1) = some (.int .i64 x2) ∧ cnd (decide (x2 ≥ g))
                (R (.bool false) hv4)
                (Iv2 [.int .i64 (IntKind.i64.wrap (k + (1 : Int)))] hv4 ∧ m2 [.int .i64 (IntKind.i64.wrap (k + (1 : Int)))] hv4 < m2 [.int .i64 k] hv4)))
            (Iv [.int .i64 (IntKind.i64.wrap (i + (1 : Int)))] hv4 ∧ m [.int .i64 (IntKind.i64.wrap (i + (1 : Int)))] hv4 < m [.int .i64 i] hv3))
          (R (.bool true) hv3))))
theorem calls43 {h : Heap} {R : Value → Heap → Prop} (g : Int) (gA : Option Addr) (gL gC : Nat) (H : S43 g gA gL gC h R) : CallsH Try.prog 43 #[.agg #[.int .i64 g, .slice gA gL gC]] h R := by
  have e : S43 g gA gL gC h R = FX (envX [1] 50) { loops := [(0, ⟨[1], [3], [1], []⟩), (2, ⟨[1, 3], [4], [1], []⟩)], joins := [], blocks := [], draws := [(9, ⟨20, false⟩)] } Try.f43 (Try.f43.body.getD .skip) [.agg #[.int .i64 g, .slice gA gL gC]] h R := by kernel_rfl
  exact calls_of_FX (envX_ok _ _) Try.func43 (by kernel_rfl) (by kernel_rfl) (by kernel_rfl) (e ▸ H)
/-- tracery/traceryref3.May -/
def Ok43 (g : Int) (edgesV : List (Int × Int)) (R : Bool → Prop) : Prop :=
  ∀ (h : Heap) (gA : Option Addr) (gL gC : Nat), Hp h [Ck.vw eP gA gL gC edgesV] → CallsH Try.prog 43 #[.agg #[.int .i64 g, .slice gA gL gC]] h fun v h' => ∃ (rV : Bool), Sy h [] h' [] ∧ v = .bool rV ∧ R rV
theorem Ok43.mono {g edgesV} {R R' : Bool → Prop} (H : Ok43 g edgesV R) (kz : ∀ rV, R rV → R' rV) : Ok43 g edgesV R' :=
  fun h gA gL gC hp => (H h gA gL gC hp).mono fun _ _ ⟨rV, P, e, q⟩ => ⟨rV, P, e, kz _ q⟩
def T43 (g : Int) (edgesV : List (Int × Int)) (R : Bool → Prop) : Prop :=
  ∃ Jv : Prop,
  ( cnd (decide (g < (0 : Int)))
     (Jv)
     (cnd (decide (g > (1024 : Int)))
       (Jv)
       (cnd (decide (((edgesV.length : Nat) : Int) > (3072 : Int)))
         (R false)
         (∃ (Iv : Int → Prop) (m : Int → Nat), Iv 0 ∧
         ∀ i : Int, Iv i →
         cnd (decide (i < ((edgesV.length : Nat) : Int)))
           (∃ (Iv2 : Int → Prop) (m2 : Int → Nat), Iv2 0 ∧
           ∀ k : Int, Iv2 k →
           cnd (decide (k < (2 : Int)))
             (0 ≤ i ∧ i < ((edgesV.length : Nat) : Int) ∧ 0 ≤ k ∧ k < ((2 : Nat) : Int) ∧ ∀ g_2 : (Int × Int), edgesV[(Int.toNat i)]? = some g_2 → cnd (decide ((nth2 g_2 k) < (0 : Int)))
               (R false)
               (0 ≤ k ∧ k < ((2 : Nat) : Int) ∧ cnd (decide ((nth2 g_2 k) ≥ g))
                 (R false)
                 (Iv2 (IntKind.i64.wrap (k + (1 : Int))) ∧ m2 (IntKind.i64.wrap (k + (1 : Int))) < m2 k)))
             (Iv (IntKind.i64.wrap (i + (1 : Int))) ∧ m (IntKind.i64.wrap (i + (1 : Int))) < m i))
           (R true))))) ∧
  (Jv →
  R false)
theorem ok43 {g edgesV} {R : Bool → Prop} (T : T43 g edgesV R) : Ok43 g edgesV R := by
  intro h gA gL gC H
  have Y : Sy h [] h _ := Sy.startM H rfl
  obtain rfl := Y.lenV 0 rfl
  apply calls43
  unfold S43
  unfold T43 at T
  intro hv
  have Y : Sy _ _ hv [_, _] := Y.junk _
  clear_value hv
  obtain ⟨Jv, T0, T1⟩ := T
  obtain ⟨B, hB, _⟩ := Y.cut [] [0, 1] rfl
  intro K
  have hK : ∀  (hv2 : Heap), (Sy h [] hv2 ([] ++ B) ∧ Jv) → K hv2 := by
    subst hB
    clear T0 Y
    rintro hv2 ⟨Y, T⟩
    replace T := T1 T
    have Y : Sy _ _ _ [_, _] := Y
    unfold K
    exact ⟨_, Y.pick [] rfl, rfl, T⟩
  subst hB
  replace T := T0
  clear T0 T1
  refine cnd_imp T (fun T => ?_) (fun T => ?_)
  · exact hK _ ⟨Y.pick [0, 1] rfl, T⟩
  · refine cnd_imp T (fun T => ?_) (fun T => ?_)
    · exact hK _ ⟨Y.pick [0, 1] rfl, T⟩
    · refine cnd_imp T (fun T => ?_) (fun T => ?_)
      · exact ⟨_, Y.pick [] rfl, rfl, T⟩
      · obtain ⟨Iv, m, T0, T1⟩ := T
        obtain ⟨B_2, hB_2, YB⟩ := Y.cut [] [0, 1] rfl
        obtain ⟨JJ, hJJ⟩ : ∃ JJ : Nat → List Value → Heap → Prop, JJ = (fun k_2 lz h' => ∃ (i : Int), lz = [.int .i64 i] ∧ Sy h [] h' ([] ++ B_2) ∧ Iv i ∧ m i = k_2) := ⟨_, rfl⟩
        refine ⟨fun lz h' => ∃ k_2, JJ k_2 lz h', Lm JJ, ?_, ?_⟩
        · subst hJJ hB_2
          exact ⟨_, _, rfl, YB, T0, rfl⟩
        · clear YB T0 Y
          intro i hv3 hI
          obtain ⟨k_2, hI, hm⟩ := loopIn hI
          subst hJJ hB_2
          obtain ⟨i, e, Y, T, rfl⟩ := hI
          cases e
          replace T := T1 i T
          have Y : Sy _ _ _ [_, _] := Y
          refine cnd_imp T (fun T => ?_) (fun T => ?_)
          · obtain ⟨Iv2, m2, T0, T1⟩ := T
            obtain ⟨B_3, hB_3, YB⟩ := Y.cut [] [0, 1] rfl
            obtain ⟨JJ_2, hJJ_2⟩ : ∃ JJ_2 : Nat → List Value → Heap → Prop, JJ_2 = (fun k_3 lz h' => ∃ (k : Int), lz = [.int .i64 k] ∧ Sy h [] h' ([] ++ B_3) ∧ Iv2 k ∧ m2 k = k_3) := ⟨_, rfl⟩
            refine ⟨fun lz h' => ∃ k_3, JJ_2 k_3 lz h', Lm JJ_2, ?_, ?_⟩
            · subst hJJ_2 hB_3
              exact ⟨_, _, rfl, YB, T0, rfl⟩
            · clear YB T0 Y
              intro k hv4 hI
              obtain ⟨k_3, hI, hm_2⟩ := loopIn hI
              subst hJJ_2 hB_3
              obtain ⟨k, e, Y, T, rfl⟩ := hI
              cases e
              replace T := T1 k T
              have Y : Sy _ _ _ [_, _] := Y
              refine cnd_imp T (fun T => ?_) (fun T => ?_)
              · have Y0 := Y
                have F : Fr [] hv4 hv4 := Fr.refl _ _
                obtain ⟨q, q_2, T⟩ := T
                obtain ⟨b_2, o_2, hb, hr, g_2, hx⟩ := Y0.atV 0 rfl q q_2
                refine ⟨b_2, o_2, hb, q, q_2, ?_⟩
                obtain ⟨q_5, q_6, T⟩ := T
                refine ⟨q_5, q_6, ?_⟩
                replace T := T g_2 hx
                refine ⟨_, nth2_cell (Y0.cellV 0 rfl hb (t := 0) hx rfl) (Y0.cellV 0 rfl hb (t := 1) hx rfl) (by assumption) (by assumption), ?_⟩
                refine cnd_imp T (fun T => ?_) (fun T => ?_)
                · exact ⟨_, Y.pick [] rfl, rfl, T⟩
                · refine ⟨b_2, o_2, hb, q, q_2, ?_⟩
                  obtain ⟨q_3, q_4, T⟩ := T
                  refine ⟨q_3, q_4, ?_⟩
                  refine ⟨_, nth2_cell (Y0.cellV 0 rfl hb (t := 0) hx rfl) (Y0.cellV 0 rfl hb (t := 1) hx rfl) (by assumption) (by assumption), ?_⟩
                  refine cnd_imp T (fun T => ?_) (fun T => ?_)
                  · exact ⟨_, Y.pick [] rfl, rfl, T⟩
                  · exact loopBack hm_2 ⟨_, rfl, Y.pick [0, 1] rfl, T.1, rfl⟩ T.2
              · exact loopBack hm ⟨_, rfl, Y.pick [0, 1] rfl, T.1, rfl⟩ T.2
          · exact ⟨_, Y.pick [] rfl, rfl, T⟩
/-- tracery/traceryref5.too -/
def S128 (nsA : Option Addr) (nsL nsC : Nat) (h : Heap) (R : Value → Heap → Prop) : Prop :=
  ∃ (Iv : List Value → Heap → Prop) (m : List Value → Heap → Nat), Iv [.int .i64 0] h ∧ -- loop 0: ['i']
  ∀ i : Int, ∀ hv, Iv [.int .i64 i] hv →
  cnd (decide (i < ((nsL : Nat) : Int)))
    (∃ b o, nsA = some ⟨b, o, none⟩ ∧ 0 ≤ i ∧ i < (nsL : Nat) ∧ ∃ x : Int, hcell hv b (o + (Int.toNat i) * 1) = some (.int .i64 x) ∧ cnd (decide (x > (4096 : Int)))
      (R (.bool true) hv)
      (Iv [.int .i64 (IntKind.i64.wrap (i + (1 : Int)))] hv ∧ m [.int .i64 (IntKind.i64.wrap (i + (1 : Int)))] hv < m [.int .i64 i] hv))
    (R (.bool false) hv)
theorem calls128 {h : Heap} {R : Value → Heap → Prop} (nsA : Option Addr) (nsL nsC : Nat) (H : S128 nsA nsL nsC h R) : CallsH Try.prog 128 #[.slice nsA nsL nsC] h R := by
  have e : S128 nsA nsL nsC h R = FX (envX [] 15) { loops := [(0, ⟨[0], [3], [], []⟩)], joins := [], blocks := [], draws := [] } Try.f128 (Try.f128.body.getD .skip) [.slice nsA nsL nsC] h R := by kernel_rfl
  exact calls_of_FX (envX_ok _ _) Try.func128 (by kernel_rfl) (by kernel_rfl) (by kernel_rfl) (e ▸ H)
/-- tracery/traceryref5.too -/
def Ok128 (nsV : List Int) (R : Bool → Prop) : Prop :=
  ∀ (h : Heap) (nsA : Option Addr) (nsL nsC : Nat), Hp h [Ck.vw eI nsA nsL nsC nsV] → CallsH Try.prog 128 #[.slice nsA nsL nsC] h fun v h' => ∃ (rV : Bool), Sy h [] h' [] ∧ v = .bool rV ∧ R rV
theorem Ok128.mono {nsV} {R R' : Bool → Prop} (H : Ok128 nsV R) (kz : ∀ rV, R rV → R' rV) : Ok128 nsV R' :=
  fun h nsA nsL nsC hp => (H h nsA nsL nsC hp).mono fun _ _ ⟨rV, P, e, q⟩ => ⟨rV, P, e, kz _ q⟩
def T128 (nsV : List Int) (R : Bool → Prop) : Prop :=
  ∃ (Iv : Int → Prop) (m : Int → Nat), Iv 0 ∧
  ∀ i : Int, Iv i →
  cnd (decide (i < ((nsV.length : Nat) : Int)))
    (0 ≤ i ∧ i < ((nsV.length : Nat) : Int) ∧ ∀ ns : Int, nsV[(Int.toNat i)]? = some ns → cnd (decide (ns > (4096 : Int)))
      (R true)
      (Iv (IntKind.i64.wrap (i + (1 : Int))) ∧ m (IntKind.i64.wrap (i + (1 : Int))) < m i))
    (R false)
theorem ok128 {nsV} {R : Bool → Prop} (T : T128 nsV R) : Ok128 nsV R := by
  intro h nsA nsL nsC H
  have Y : Sy h [] h _ := Sy.startM H rfl
  obtain rfl := Y.lenV 0 rfl
  apply calls128
  unfold S128
  unfold T128 at T
  obtain ⟨Iv, m, T0, T1⟩ := T
  obtain ⟨B, hB, YB⟩ := Y.cut [] [0] rfl
  obtain ⟨JJ, hJJ⟩ : ∃ JJ : Nat → List Value → Heap → Prop, JJ = (fun k lz h' => ∃ (i : Int), lz = [.int .i64 i] ∧ Sy h [] h' ([] ++ B) ∧ Iv i ∧ m i = k) := ⟨_, rfl⟩
  refine ⟨fun lz h' => ∃ k, JJ k lz h', Lm JJ, ?_, ?_⟩
  · subst hJJ hB
    exact ⟨_, _, rfl, YB, T0, rfl⟩
  · clear YB T0 Y
    intro i hv hI
    obtain ⟨k, hI, hm⟩ := loopIn hI
    subst hJJ hB
    obtain ⟨i, e, Y, T, rfl⟩ := hI
    cases e
    replace T := T1 i T
    have Y : Sy _ _ _ [_] := Y
    refine cnd_imp T (fun T => ?_) (fun T => ?_)
    · obtain ⟨q, q_2, T⟩ := T
      obtain ⟨b_2, o_2, hb, hr, ns, hx⟩ := Y.atV 0 rfl q q_2
      refine ⟨b_2, o_2, hb, q, q_2, ?_⟩
      replace T := T ns hx
      refine ⟨_, Y.cellV 0 rfl hb (t := 0) hx rfl, ?_⟩
      refine cnd_imp T (fun T => ?_) (fun T => ?_)
      · exact ⟨_, Y.pick [] rfl, rfl, T⟩
      · exact loopBack hm ⟨_, rfl, Y.pick [0] rfl, T.1, rfl⟩ T.2
    · exact ⟨_, Y.pick [] rfl, rfl, T⟩
/-- tracery/maker.sized -/
def S113 (least : Int) (numbersA : Option Addr) (numbersL numbersC : Nat) (n : Int) (m : Int) (h : Heap) (R : Value → Heap → Prop) : Prop :=
  ∃ (Iv : List Value → Heap → Prop) (m2 : List Value → Heap → Nat), Iv [.int .i64 0] h ∧ -- loop 0: ['15']
  ∀ x : Int, ∀ hv, Iv [.int .i64 x] hv →
  cnd (decide (x < ((numbersL : Nat) : Int)))
    (∃ b o, numbersA = some ⟨b, o, none⟩ ∧ 0 ≤ x ∧ x < (numbersL : Nat) ∧ ∃ x2 : Int, hcell hv b (o + (Int.toNat x) * 1) = some (.int .i64 x2) ∧ cnd (decide (x2 < least))
      (R (.int .i64 1) hv)
      (Iv [.int .i64 (IntKind.i64.wrap (x + (1 : Int)))] hv ∧ m2 [.int .i64 (IntKind.i64.wrap (x + (1 : Int)))] hv < m2 [.int .i64 x] hv))
    (∃ (Iv2 : List Value → Heap → Prop) (m3 : List Value → Heap → Nat), Iv2 [.int .i64 0] hv ∧ -- loop 2: ['25']
    ∀ x3 : Int, ∀ hv2, Iv2 [.int .i64 x3] hv2 →
    cnd (decide (x3 < ((numbersL : Nat) : Int)))
      (∃ b2 o2, numbersA = some ⟨b2, o2, none⟩ ∧ 0 ≤ x3 ∧ x3 < (numbersL : Nat) ∧ ∃ x4 : Int, hcell hv2 b2 (o2 + (Int.toNat x3) * 1) = some (.int .i64 x4) ∧ cnd (decide (x4 > (3072 : Int)))
        (R (.int .i64 3) hv2)
        (Iv2 [.int .i64 (IntKind.i64.wrap (x3 + (1 : Int)))] hv2 ∧ m3 [.int .i64 (IntKind.i64.wrap (x3 + (1 : Int)))] hv2 < m3 [.int .i64 x3] hv2))
      (cnd (decide (n > (1024 : Int)))
        (R (.int .i64 3) hv2)
        (cnd (decide (m > (3072 : Int)))
          (R (.int .i64 3) hv2)
          (R (.int .i64 0) hv2))))
theorem calls113 {h : Heap} {R : Value → Heap → Prop} (least : Int) (numbersA : Option Addr) (numbersL numbersC : Nat) (n : Int) (m : Int) (H : S113 least numbersA numbersL numbersC n m h R) : CallsH Try.prog 113 #[.int .i64 least, .slice numbersA numbersL numbersC, .int .i64 n, .int .i64 m] h R := by
  have e : S113 least numbersA numbersL numbersC n m h R = FX (envX [] 38) { loops := [(0, ⟨[0, 1, 2, 3, 13, 14], [15], [], []⟩), (2, ⟨[2, 3, 23, 24], [25], [], []⟩)], joins := [], blocks := [], draws := [] } Try.f113 (Try.f113.body.getD .skip) [.int .i64 least, .slice numbersA numbersL numbersC, .int .i64 n, .int .i64 m] h R := by kernel_rfl
  exact calls_of_FX (envX_ok _ _) Try.func113 (by kernel_rfl) (by kernel_rfl) (by kernel_rfl) (e ▸ H)
/-- tracery/maker.sized -/
def Ok113 (least : Int) (numbersV : List Int) (n : Int) (m : Int) (R : Int → Prop) : Prop :=
  ∀ (h : Heap) (numbersA : Option Addr) (numbersL numbersC : Nat), Hp h [Ck.vw eI numbersA numbersL numbersC numbersV] → CallsH Try.prog 113 #[.int .i64 least, .slice numbersA numbersL numbersC, .int .i64 n, .int .i64 m] h fun v h' => ∃ (rV : Int), Sy h [] h' [] ∧ v = .int .i64 rV ∧ R rV
theorem Ok113.mono {least numbersV n m} {R R' : Int → Prop} (H : Ok113 least numbersV n m R) (kz : ∀ rV, R rV → R' rV) : Ok113 least numbersV n m R' :=
  fun h numbersA numbersL numbersC hp => (H h numbersA numbersL numbersC hp).mono fun _ _ ⟨rV, P, e, q⟩ => ⟨rV, P, e, kz _ q⟩
def T113 (least : Int) (numbersV : List Int) (n : Int) (m : Int) (R : Int → Prop) : Prop :=
  ∃ (Iv : Int → Prop) (m2 : Int → Nat), Iv 0 ∧
  ∀ x : Int, Iv x →
  cnd (decide (x < ((numbersV.length : Nat) : Int)))
    (0 ≤ x ∧ x < ((numbersV.length : Nat) : Int) ∧ ∀ numbers : Int, numbersV[(Int.toNat x)]? = some numbers → cnd (decide (numbers < least))
      (R 1)
      (Iv (IntKind.i64.wrap (x + (1 : Int))) ∧ m2 (IntKind.i64.wrap (x + (1 : Int))) < m2 x))
    (∃ (Iv2 : Int → Prop) (m3 : Int → Nat), Iv2 0 ∧
    ∀ x3 : Int, Iv2 x3 →
    cnd (decide (x3 < ((numbersV.length : Nat) : Int)))
      (0 ≤ x3 ∧ x3 < ((numbersV.length : Nat) : Int) ∧ ∀ numbers_2 : Int, numbersV[(Int.toNat x3)]? = some numbers_2 → cnd (decide (numbers_2 > (3072 : Int)))
        (R 3)
        (Iv2 (IntKind.i64.wrap (x3 + (1 : Int))) ∧ m3 (IntKind.i64.wrap (x3 + (1 : Int))) < m3 x3))
      (cnd (decide (n > (1024 : Int)))
        (R 3)
        (cnd (decide (m > (3072 : Int)))
          (R 3)
          (R 0))))
theorem ok113 {least numbersV n m} {R : Int → Prop} (T : T113 least numbersV n m R) : Ok113 least numbersV n m R := by
  intro h numbersA numbersL numbersC H
  have Y : Sy h [] h _ := Sy.startM H rfl
  obtain rfl := Y.lenV 0 rfl
  apply calls113
  unfold S113
  unfold T113 at T
  obtain ⟨Iv, m2, T0, T1⟩ := T
  obtain ⟨B, hB, YB⟩ := Y.cut [] [0] rfl
  obtain ⟨JJ, hJJ⟩ : ∃ JJ : Nat → List Value → Heap → Prop, JJ = (fun k lz h' => ∃ (x : Int), lz = [.int .i64 x] ∧ Sy h [] h' ([] ++ B) ∧ Iv x ∧ m2 x = k) := ⟨_, rfl⟩
  refine ⟨fun lz h' => ∃ k, JJ k lz h', Lm JJ, ?_, ?_⟩
  · subst hJJ hB
    exact ⟨_, _, rfl, YB, T0, rfl⟩
  · clear YB T0 Y
    intro x hv hI
    obtain ⟨k, hI, hm⟩ := loopIn hI
    subst hJJ hB
    obtain ⟨x, e, Y, T, rfl⟩ := hI
    cases e
    replace T := T1 x T
    have Y : Sy _ _ _ [_] := Y
    refine cnd_imp T (fun T => ?_) (fun T => ?_)
    · obtain ⟨q, q_2, T⟩ := T
      obtain ⟨b_2, o_2, hb, hr, numbers, hx⟩ := Y.atV 0 rfl q q_2
      refine ⟨b_2, o_2, hb, q, q_2, ?_⟩
      replace T := T numbers hx
      refine ⟨_, Y.cellV 0 rfl hb (t := 0) hx rfl, ?_⟩
      refine cnd_imp T (fun T => ?_) (fun T => ?_)
      · exact ⟨_, Y.pick [] rfl, rfl, T⟩
      · exact loopBack hm ⟨_, rfl, Y.pick [0] rfl, T.1, rfl⟩ T.2
    · obtain ⟨Iv2, m3, T0, T1⟩ := T
      obtain ⟨B_2, hB_2, YB⟩ := Y.cut [] [0] rfl
      obtain ⟨JJ_2, hJJ_2⟩ : ∃ JJ_2 : Nat → List Value → Heap → Prop, JJ_2 = (fun k_2 lz h' => ∃ (x3 : Int), lz = [.int .i64 x3] ∧ Sy h [] h' ([] ++ B_2) ∧ Iv2 x3 ∧ m3 x3 = k_2) := ⟨_, rfl⟩
      refine ⟨fun lz h' => ∃ k_2, JJ_2 k_2 lz h', Lm JJ_2, ?_, ?_⟩
      · subst hJJ_2 hB_2
        exact ⟨_, _, rfl, YB, T0, rfl⟩
      · clear YB T0 Y
        intro x3 hv2 hI
        obtain ⟨k_2, hI, hm_2⟩ := loopIn hI
        subst hJJ_2 hB_2
        obtain ⟨x3, e, Y, T, rfl⟩ := hI
        cases e
        replace T := T1 x3 T
        have Y : Sy _ _ _ [_] := Y
        refine cnd_imp T (fun T => ?_) (fun T => ?_)
        · obtain ⟨q_3, q_4, T⟩ := T
          obtain ⟨b_3, o_3, hb_2, hr_2, numbers_2, hx_2⟩ := Y.atV 0 rfl q_3 q_4
          refine ⟨b_3, o_3, hb_2, q_3, q_4, ?_⟩
          replace T := T numbers_2 hx_2
          refine ⟨_, Y.cellV 0 rfl hb_2 (t := 0) hx_2 rfl, ?_⟩
          refine cnd_imp T (fun T => ?_) (fun T => ?_)
          · exact ⟨_, Y.pick [] rfl, rfl, T⟩
          · exact loopBack hm_2 ⟨_, rfl, Y.pick [0] rfl, T.1, rfl⟩ T.2
        · refine cnd_imp T (fun T => ?_) (fun T => ?_)
          · exact ⟨_, Y.pick [] rfl, rfl, T⟩
          · refine cnd_imp T (fun T => ?_) (fun T => ?_)
            · exact ⟨_, Y.pick [] rfl, rfl, T⟩
            · exact ⟨_, Y.pick [] rfl, rfl, T⟩
/-- tracery/maker.product -/
def S124 (a : Int) (b : Int) (h : Heap) (R : Value → Heap → Prop) : Prop :=
  let K := fun (hv : Heap) =>
    (R (.int .i64 0) hv)
  cnd (decide (a < (0 : Int)))
    (K h)
    (cnd (decide (b < (0 : Int)))
      (K h)
      (cnd (decide (a > (3072 : Int)))
        (K h)
        (cnd (decide (b > (3072 : Int)))
          (R (.int .i64 0) h)
          (R (.int .i64 (IntKind.i64.wrap (a * b))) h))))
theorem calls124 {h : Heap} {R : Value → Heap → Prop} (a : Int) (b : Int) (H : S124 a b h R) : CallsH Try.prog 124 #[.int .i64 a, .int .i64 b] h R := by
  have e : S124 a b h R = FX (envX [] 22) { loops := [], joins := [], blocks := [], draws := [] } Try.f124 (Try.f124.body.getD .skip) [.int .i64 a, .int .i64 b] h R := by kernel_rfl
  exact calls_of_FX (envX_ok _ _) Try.func124 (by kernel_rfl) (by kernel_rfl) (by kernel_rfl) (e ▸ H)
/-- tracery/maker.product -/
def Ok124 (a : Int) (b : Int) (R : Int → Prop) : Prop :=
  ∀ (h : Heap), Hp h [] → CallsH Try.prog 124 #[.int .i64 a, .int .i64 b] h fun v h' => ∃ (rV : Int), Sy h [] h' [] ∧ v = .int .i64 rV ∧ R rV
theorem Ok124.mono {a b} {R R' : Int → Prop} (H : Ok124 a b R) (kz : ∀ rV, R rV → R' rV) : Ok124 a b R' :=
  fun h  hp => (H h  hp).mono fun _ _ ⟨rV, P, e, q⟩ => ⟨rV, P, e, kz _ q⟩
def T124 (a : Int) (b : Int) (R : Int → Prop) : Prop :=
  ∃ Jv : Prop,
  ( cnd (decide (a < (0 : Int)))
     (Jv)
     (cnd (decide (b < (0 : Int)))
       (Jv)
       (cnd (decide (a > (3072 : Int)))
         (Jv)
         (cnd (decide (b > (3072 : Int)))
           (R 0)
           (R (IntKind.i64.wrap (a * b))))))) ∧
  (Jv →
  R 0)
theorem ok124 {a b} {R : Int → Prop} (T : T124 a b R) : Ok124 a b R := by
  intro h  H
  have Y : Sy h [] h _ := Sy.startM H rfl
  apply calls124
  unfold S124
  unfold T124 at T
  obtain ⟨Jv, T0, T1⟩ := T
  obtain ⟨B, hB, _⟩ := Y.cut [] [] rfl
  intro K
  have hK : ∀  (hv : Heap), (Sy h [] hv ([] ++ B) ∧ Jv) → K hv := by
    subst hB
    clear T0 Y
    rintro hv ⟨Y, T⟩
    replace T := T1 T
    have Y : Sy _ _ _ [] := Y
    unfold K
    exact ⟨_, Y.pick [] rfl, rfl, T⟩
  subst hB
  replace T := T0
  clear T0 T1
  refine cnd_imp T (fun T => ?_) (fun T => ?_)
  · exact hK _ ⟨Y.pick [] rfl, T⟩
  · refine cnd_imp T (fun T => ?_) (fun T => ?_)
    · exact hK _ ⟨Y.pick [] rfl, T⟩
    · refine cnd_imp T (fun T => ?_) (fun T => ?_)
      · exact hK _ ⟨Y.pick [] rfl, T⟩
      · refine cnd_imp T (fun T => ?_) (fun T => ?_)
        · exact ⟨_, Y.pick [] rfl, rfl, T⟩
        · exact ⟨_, Y.pick [] rfl, rfl, T⟩
end Go.Proofs.Ytmcloipjlihhlaa.N
