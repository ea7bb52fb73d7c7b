/- Functions: what is left to be shown of each, over memory and without: printed by program, tied to the loaded functions by the kernel. Conditions: none. -/
import Derived.Test.YtmcloipjlihhlaaSEnv
import Derived.Test.YtmcloipjlihhlaaYMore
import Derived.Test.YtmcloipjlihhlaaTWalk2
namespace Go.Proofs.Ytmcloipjlihhlaa.N
open Go.Proofs.Ytmcloipjlihhlaa
open Go.X
set_option maxRecDepth 100000
set_option linter.unusedVariables false
set_option linter.unusedSimpArgs false
set_option maxHeartbeats 2000000

/-- tracery/traceryref3.Chosen -/
def S150 (lA : Option Addr) (lL lC : Nat) (n : Int) (h : Heap) (R : Value → Heap → Prop) : Prop :=
  ∃ (Iv : List Value → Heap → Prop) (m : List Value → Heap → Nat), Iv [.int .i64 0] h ∧ -- loop 0: ['i']
  ∀ i : Int, ∀ hv, Iv [.int .i64 i] hv →
  cnd (decide (i < ((lL : Nat) : Int)))
    (∃ b o, lA = some ⟨b, o, none⟩ ∧ 0 ≤ i ∧ i < (lL : Nat) ∧ ∃ x : Int, hcell hv b (o + (Int.toNat i) * 1) = some (.int .i64 x) ∧ cnd (decide (x < (0 : Int)))
      (R (.int .i64 2) hv)
      (∃ b2 o2, lA = some ⟨b2, o2, none⟩ ∧ 0 ≤ i ∧ i < (lL : Nat) ∧ ∃ x2 : Int, hcell hv b2 (o2 + (Int.toNat i) * 1) = some (.int .i64 x2) ∧ cnd (decide (x2 ≥ n))
        (R (.int .i64 2) hv)
        (∃ (Iv2 : List Value → Heap → Prop) (m2 : List Value → Heap → Nat), Iv2 [.int .i64 0] hv ∧ -- loop 2: ['k']
        ∀ k : Int, ∀ hv2, Iv2 [.int .i64 k] hv2 →
        cnd (decide (k < i))
          (∃ b3 o3, lA = some ⟨b3, o3, none⟩ ∧ 0 ≤ k ∧ k < (lL : Nat) ∧ ∃ x3 : Int, hcell hv2 b3 (o3 + (Int.toNat k) * 1) = some (.int .i64 x3) ∧ ∃ b4 o4, lA = some ⟨b4, o4, none⟩ ∧ 0 ≤ i ∧ i < (lL : Nat) ∧ ∃ x4 : Int, hcell hv2 b4 (o4 + (Int.toNat i) * 1) = some (.int .i64 x4) ∧ cnd (x3 == x4)
            (R (.int .i64 18) hv2)
            (Iv2 [.int .i64 (IntKind.i64.wrap (k + (1 : Int)))] hv2 ∧ m2 [.int .i64 (IntKind.i64.wrap (k + (1 : Int)))] hv2 < m2 [.int .i64 k] hv2))
          (Iv [.int .i64 (IntKind.i64.wrap (i + (1 : Int)))] hv2 ∧ m [.int .i64 (IntKind.i64.wrap (i + (1 : Int)))] hv2 < m [.int .i64 i] hv))))
    (R (.int .i64 0) hv)
theorem calls150 {h : Heap} {R : Value → Heap → Prop} (lA : Option Addr) (lL lC : Nat) (n : Int) (H : S150 lA lL lC n h R) : CallsH Try.prog 150 #[.slice lA lL lC, .int .i64 n] h R := by
  have e : S150 lA lL lC n h R = FX (envX [] 40) { loops := [(0, ⟨[0, 1], [5], [], []⟩), (2, ⟨[0, 1, 5], [6], [], []⟩)], joins := [], blocks := [], draws := [(9, ⟨9, false⟩)] } Try.f150 (Try.f150.body.getD .skip) [.slice lA lL lC, .int .i64 n] h R := by kernel_rfl
  exact calls_of_FX (envX_ok _ _) Try.func150 (by kernel_rfl) (by kernel_rfl) (by kernel_rfl) (e ▸ H)
/-- tracery/traceryref3.Chosen -/
def Ok150 (lV : List Int) (n : Int) (R : Int → Prop) : Prop :=
  ∀ (h : Heap) (lA : Option Addr) (lL lC : Nat), Hp h [Ck.vw eI lA lL lC lV] → CallsH Try.prog 150 #[.slice lA lL lC, .int .i64 n] h fun v h' => ∃ (rV : Int), Sy h [] h' [] ∧ v = .int .i64 rV ∧ R rV
theorem Ok150.mono {lV n} {R R' : Int → Prop} (H : Ok150 lV n R) (kz : ∀ rV, R rV → R' rV) : Ok150 lV n R' :=
  fun h lA lL lC hp => (H h lA lL lC hp).mono fun _ _ ⟨rV, P, e, q⟩ => ⟨rV, P, e, kz _ q⟩
def T150 (lV : List Int) (n : Int) (R : Int → Prop) : Prop :=
  ∃ (Iv : Int → Prop) (m : Int → Nat), Iv 0 ∧
  ∀ i : Int, Iv i →
  cnd (decide (i < ((lV.length : Nat) : Int)))
    (0 ≤ i ∧ i < ((lV.length : Nat) : Int) ∧ ∀ l : Int, lV[(Int.toNat i)]? = some l → cnd (decide (l < (0 : Int)))
      (R 2)
      (cnd (decide (l ≥ n))
        (R 2)
        (∃ (Iv2 : Int → Prop) (m2 : Int → Nat), Iv2 0 ∧
        ∀ k : Int, Iv2 k →
        cnd (decide (k < i))
          (0 ≤ k ∧ k < ((lV.length : Nat) : Int) ∧ ∀ l_2 : Int, lV[(Int.toNat k)]? = some l_2 → 0 ≤ i ∧ i < ((lV.length : Nat) : Int) ∧ ∀ l_3 : Int, lV[(Int.toNat i)]? = some l_3 → cnd (l_2 == l_3)
            (R 18)
            (Iv2 (IntKind.i64.wrap (k + (1 : Int))) ∧ m2 (IntKind.i64.wrap (k + (1 : Int))) < m2 k))
          (Iv (IntKind.i64.wrap (i + (1 : Int))) ∧ m (IntKind.i64.wrap (i + (1 : Int))) < m i))))
    (R 0)
theorem ok150 {lV n} {R : Int → Prop} (T : T150 lV n R) : Ok150 lV n R := by
  intro h lA lL lC H
  have Y : Sy h [] h _ := Sy.startM H rfl
  obtain rfl := Y.lenV 0 rfl
  apply calls150
  unfold S150
  unfold T150 at T
  obtain ⟨Iv, m, T0, T1⟩ := T
  obtain ⟨B, hB, YB⟩ := Y.cut [] [0] rfl
  obtain ⟨JJ, hJJ⟩ : ∃ JJ : Nat → List Value → Heap → Prop, JJ = (fun k_2 lz h' => ∃ (i : Int), lz = [.int .i64 i] ∧ Sy h [] h' ([] ++ B) ∧ Iv i ∧ m i = k_2) := ⟨_, rfl⟩
  refine ⟨fun lz h' => ∃ k_2, JJ k_2 lz h', Lm JJ, ?_, ?_⟩
  · subst hJJ hB
    exact ⟨_, _, rfl, YB, T0, rfl⟩
  · clear YB T0 Y
    intro i hv hI
    obtain ⟨k_2, hI, hm⟩ := loopIn hI
    subst hJJ hB
    obtain ⟨i, e, Y, T, rfl⟩ := hI
    cases e
    replace T := T1 i T
    have Y : Sy _ _ _ [_] := Y
    refine cnd_imp T (fun T => ?_) (fun T => ?_)
    · obtain ⟨q, q_2, T⟩ := T
      obtain ⟨b_2, o_2, hb, hr, l, hx⟩ := Y.atV 0 rfl q q_2
      refine ⟨b_2, o_2, hb, q, q_2, ?_⟩
      replace T := T l hx
      refine ⟨_, Y.cellV 0 rfl hb (t := 0) hx rfl, ?_⟩
      refine cnd_imp T (fun T => ?_) (fun T => ?_)
      · exact ⟨_, Y.pick [] rfl, rfl, T⟩
      · refine ⟨b_2, o_2, hb, q, q_2, ?_⟩
        refine ⟨_, Y.cellV 0 rfl hb (t := 0) hx rfl, ?_⟩
        refine cnd_imp T (fun T => ?_) (fun T => ?_)
        · exact ⟨_, Y.pick [] rfl, rfl, T⟩
        · obtain ⟨Iv2, m2, T0, T1⟩ := T
          obtain ⟨B_2, hB_2, YB⟩ := Y.cut [] [0] rfl
          obtain ⟨JJ_2, hJJ_2⟩ : ∃ JJ_2 : Nat → List Value → Heap → Prop, JJ_2 = (fun k_3 lz h' => ∃ (k : Int), lz = [.int .i64 k] ∧ Sy h [] h' ([] ++ B_2) ∧ Iv2 k ∧ m2 k = k_3) := ⟨_, rfl⟩
          refine ⟨fun lz h' => ∃ k_3, JJ_2 k_3 lz h', Lm JJ_2, ?_, ?_⟩
          · subst hJJ_2 hB_2
            exact ⟨_, _, rfl, YB, T0, rfl⟩
          · clear YB T0 Y
            intro k hv2 hI
            obtain ⟨k_3, hI, hm_2⟩ := loopIn hI
            subst hJJ_2 hB_2
            obtain ⟨k, e, Y, T, rfl⟩ := hI
            cases e
            replace T := T1 k T
            have Y : Sy _ _ _ [_] := Y
            refine cnd_imp T (fun T => ?_) (fun T => ?_)
            · have Y0 := Y
              have F : Fr [] hv2 hv2 := Fr.refl _ _
              obtain ⟨q_3, q_4, T⟩ := T
              obtain ⟨b_3, o_3, hb_2, hr_2, l_2, hx_2⟩ := Y0.atV 0 rfl q_3 q_4
              refine ⟨b_3, o_3, hb_2, q_3, q_4, ?_⟩
              replace T := T l_2 hx_2
              refine ⟨_, Y0.cellV 0 rfl hb_2 (t := 0) hx_2 rfl, ?_⟩
              obtain ⟨q_5, q_6, T⟩ := T
              obtain ⟨b_4, o_4, hb_3, hr_3, l_3, hx_3⟩ := Y0.atV 0 rfl q_5 q_6
              refine ⟨b_4, o_4, hb_3, q_5, q_6, ?_⟩
              replace T := T l_3 hx_3
              refine ⟨_, Y0.cellV 0 rfl hb_3 (t := 0) hx_3 rfl, ?_⟩
              refine cnd_imp T (fun T => ?_) (fun T => ?_)
              · exact ⟨_, Y.pick [] rfl, rfl, T⟩
              · exact loopBack hm_2 ⟨_, rfl, Y.pick [0] rfl, T.1, rfl⟩ T.2
            · exact loopBack hm ⟨_, rfl, Y.pick [0] rfl, T.1, rfl⟩ T.2
    · exact ⟨_, Y.pick [] rfl, rfl, T⟩
/-- tracery/traceryref3.Ints -/
def S68 (aA : Option Addr) (aL aC : Nat) (bA : Option Addr) (bL bC : Nat) (h : Heap) (R : Value → Heap → Prop) : Prop :=
  cnd (((aL : Nat) : Int) != ((bL : Nat) : Int))
    (R (.bool false) h)
    (∃ (Iv : List Value → Heap → Prop) (m : List Value → Heap → Nat), Iv [.int .i64 0] h ∧ -- loop 0: ['i']
    ∀ i : Int, ∀ hv, Iv [.int .i64 i] hv →
    cnd (decide (i < ((aL : Nat) : Int)))
      (∃ b o, aA = some ⟨b, o, none⟩ ∧ 0 ≤ i ∧ i < (aL : Nat) ∧ ∃ x : Int, hcell hv b (o + (Int.toNat i) * 1) = some (.int .i64 x) ∧ ∃ b2 o2, bA = some ⟨b2, o2, none⟩ ∧ 0 ≤ i ∧ i < (bL : Nat) ∧ ∃ x2 : Int, hcell hv b2 (o2 + (Int.toNat i) * 1) = some (.int .i64 x2) ∧ cnd (x != x2)
        (R (.bool false) hv)
        (Iv [.int .i64 (IntKind.i64.wrap (i + (1 : Int)))] hv ∧ m [.int .i64 (IntKind.i64.wrap (i + (1 : Int)))] hv < m [.int .i64 i] hv))
      (R (.bool true) hv))
theorem calls68 {h : Heap} {R : Value → Heap → Prop} (aA : Option Addr) (aL aC : Nat) (bA : Option Addr) (bL bC : Nat) (H : S68 aA aL aC bA bL bC h R) : CallsH Try.prog 68 #[.slice aA aL aC, .slice bA bL bC] h R := by
  have e : S68 aA aL aC bA bL bC h R = FX (envX [] 26) { loops := [(0, ⟨[0, 1], [5], [], []⟩)], joins := [], blocks := [], draws := [(6, ⟨9, false⟩)] } Try.f68 (Try.f68.body.getD .skip) [.slice aA aL aC, .slice bA bL bC] h R := by kernel_rfl
  exact calls_of_FX (envX_ok _ _) Try.func68 (by kernel_rfl) (by kernel_rfl) (by kernel_rfl) (e ▸ H)
/-- tracery/traceryref3.Ints -/
def Ok68 (aV : List Int) (bV : List Int) (R : Bool → Prop) : Prop :=
  ∀ (h : Heap) (aA : Option Addr) (aL aC : Nat) (bA : Option Addr) (bL bC : Nat), Hp h [Ck.vw eI aA aL aC aV, Ck.vw eI bA bL bC bV] → CallsH Try.prog 68 #[.slice aA aL aC, .slice bA bL bC] h fun v h' => ∃ (rV : Bool), Sy h [] h' [] ∧ v = .bool rV ∧ R rV
theorem Ok68.mono {aV bV} {R R' : Bool → Prop} (H : Ok68 aV bV R) (kz : ∀ rV, R rV → R' rV) : Ok68 aV bV R' :=
  fun h aA aL aC bA bL bC hp => (H h aA aL aC bA bL bC hp).mono fun _ _ ⟨rV, P, e, q⟩ => ⟨rV, P, e, kz _ q⟩
def T68 (aV : List Int) (bV : List Int) (R : Bool → Prop) : Prop :=
  cnd (((aV.length : Nat) : Int) != ((bV.length : Nat) : Int))
    (R false)
    (∃ (Iv : Int → Prop) (m : Int → Nat), Iv 0 ∧
    ∀ i : Int, Iv i →
    cnd (decide (i < ((aV.length : Nat) : Int)))
      (0 ≤ i ∧ i < ((aV.length : Nat) : Int) ∧ ∀ a : Int, aV[(Int.toNat i)]? = some a → 0 ≤ i ∧ i < ((bV.length : Nat) : Int) ∧ ∀ b_4 : Int, bV[(Int.toNat i)]? = some b_4 → cnd (a != b_4)
        (R false)
        (Iv (IntKind.i64.wrap (i + (1 : Int))) ∧ m (IntKind.i64.wrap (i + (1 : Int))) < m i))
      (R true))
theorem ok68 {aV bV} {R : Bool → Prop} (T : T68 aV bV R) : Ok68 aV bV R := by
  intro h aA aL aC bA bL bC H
  have Y : Sy h [] h _ := Sy.startM H rfl
  obtain rfl := Y.lenV 0 rfl
  obtain rfl := Y.lenV 1 rfl
  apply calls68
  unfold S68
  unfold T68 at T
  refine cnd_imp T (fun T => ?_) (fun T => ?_)
  · exact ⟨_, Y.pick [] rfl, rfl, T⟩
  · obtain ⟨Iv, m, T0, T1⟩ := T
    obtain ⟨B, hB, YB⟩ := Y.cut [] [0, 1] rfl
    obtain ⟨JJ, hJJ⟩ : ∃ JJ : Nat → List Value → Heap → Prop, JJ = (fun k lz h' => ∃ (i : Int), lz = [.int .i64 i] ∧ Sy h [] h' ([] ++ B) ∧ Iv i ∧ m i = k) := ⟨_, rfl⟩
    refine ⟨fun lz h' => ∃ k, JJ k lz h', Lm JJ, ?_, ?_⟩
    · subst hJJ hB
      exact ⟨_, _, rfl, YB, T0, rfl⟩
    · clear YB T0 Y
      intro i hv hI
      obtain ⟨k, hI, hm⟩ := loopIn hI
      subst hJJ hB
      obtain ⟨i, e, Y, T, rfl⟩ := hI
      cases e
      replace T := T1 i T
      have Y : Sy _ _ _ [_, _] := Y
      refine cnd_imp T (fun T => ?_) (fun T => ?_)
      · have Y0 := Y
        have F : Fr [] hv hv := Fr.refl _ _
        obtain ⟨q, q_2, T⟩ := T
        obtain ⟨b_2, o_2, hb, hr, a, hx⟩ := Y0.atV 0 rfl q q_2
        refine ⟨b_2, o_2, hb, q, q_2, ?_⟩
        replace T := T a hx
        refine ⟨_, Y0.cellV 0 rfl hb (t := 0) hx rfl, ?_⟩
        obtain ⟨q_3, q_4, T⟩ := T
        obtain ⟨b_3, o_3, hb_2, hr_2, b_4, hx_2⟩ := Y0.atV 1 rfl q_3 q_4
        refine ⟨b_3, o_3, hb_2, q_3, q_4, ?_⟩
        replace T := T b_4 hx_2
        refine ⟨_, Y0.cellV 1 rfl hb_2 (t := 0) hx_2 rfl, ?_⟩
        refine cnd_imp T (fun T => ?_) (fun T => ?_)
        · exact ⟨_, Y.pick [] rfl, rfl, T⟩
        · exact loopBack hm ⟨_, rfl, Y.pick [0, 1] rfl, T.1, rfl⟩ T.2
      · exact ⟨_, Y.pick [] rfl, rfl, T⟩
end Go.Proofs.Ytmcloipjlihhlaa.N
