/- Functions: what is left to be shown of each, over memory and without: printed by program, tied to the loaded functions by the kernel. Conditions: none. -/
import Derived.Test.YtmcloipjlihhlaaSEnv
import Derived.Test.YtmcloipjlihhlaaYMore
import Derived.Test.YtmcloipjlihhlaaTPlays
import Derived.Test.YtmcloipjlihhlaaTGraphA
import Derived.Test.YtmcloipjlihhlaaTGraph
namespace Go.Proofs.Ytmcloipjlihhlaa.N
open Go.Proofs.Ytmcloipjlihhlaa
open Go.X
set_option maxRecDepth 100000
set_option linter.unusedVariables false
set_option linter.unusedSimpArgs false
set_option maxHeartbeats 2000000

/-- tracery/tracerylaw4.GraphAll -/
def S24 (fromv : Int) (fromA : Option Addr) (fromL fromC : Nat) (opsA : Option Addr) (opsL opsC : Nat) (h : Heap) (R : Value → Heap → Prop) : Prop :=
  let hv : Heap := h.push (.cells #[.int .i64 fromv, .slice fromA fromL fromC] 26)
  callX Try.prog 74 #[] hv [h.size] fun v hv2 =>
  ∃ r : Bool, v = .bool r ∧
  cnd (!r)
    (R (.bool false) hv2)
    (callX Try.prog 59 #[.agg #[.int .i64 fromv, .slice fromA fromL fromC]] hv2 [h.size] fun v2 hv3 =>
    ∃ r2 : Bool, v2 = .bool r2 ∧
    cnd (!r2)
      (R (.bool true) hv3)
      (callX Try.prog 63 #[.agg #[.int .i64 fromv, .slice fromA fromL fromC]] hv3 [h.size] fun v3 hv4 =>
      ∃ r3 : Int, ∃ (rA : Option Addr) (rL rC : Nat), v3 = .agg #[.int .i64 r3, .slice rA rL rC] ∧
      let hv5 : Heap := hv4.push (.cells #[.int .i64 0, .slice none 0 0] 26)
      let hv6 : Heap := hset (hset hv5 hv4.size 0 (.int .i64 r3)) hv4.size (0 + 1) (.slice rA rL rC)
      callX Try.prog 75 #[.agg #[.int .i64 r3, .slice rA rL rC]] hv6 [hv4.size, h.size] fun v4 hv7 =>
      ∃ raP : Option Addr, ∃ rb : Int, v4 = .tuple #[.pointer raP, .int .i64 rb] ∧
      callX Try.prog 107 #[.agg #[.int .i64 fromv, .slice fromA fromL fromC]] hv7 [hv4.size, h.size] fun v5 hv8 =>
      ∃ raP2 : Option Addr, ∃ rb2 : Int, v5 = .tuple #[.pointer raP2, .int .i64 rb2] ∧
      let K := fun (hv10 : Heap) =>
        (R (.bool false) hv10)
      cnd (rb != rb2)
        (K hv8)
        (cnd (!((Option.isNone raP) == (Option.isNone raP2)))
          (K hv8)
          (callX Try.prog 73 #[.agg #[.int .i64 r3, .slice rA rL rC], .agg #[.int .i64 fromv, .slice fromA fromL fromC]] hv8 [hv4.size, h.size] fun v6 hv9 =>
          ∃ r4 : Bool, v6 = .bool r4 ∧
          cnd (!r4)
            (R (.bool false) hv9)
            (cnd (Option.isNone raP2)
              (R (.bool true) hv9)
              (let hv11 : Heap := hv9.push (.cells #[.pointer raP, .pointer raP2, .slice none 0 0] 149)
              let K2 := fun (hv15 : Heap) =>
                (callX Try.prog 109 #[.pointer (some (⟨hv9.size, 0, none⟩ : Addr))] hv15 [] fun v9 hv16 =>
                ∃ r7 : Bool, v9 = .bool r7 ∧
                R (.bool r7) hv16)
              ∃ (Iv : List Value → Heap → Prop) (m : List Value → Heap → Nat), Iv [.int .i64 0] hv11 ∧ -- loop 0: ['i']
              ∀ i : Int, ∀ hv12, Iv [.int .i64 i] hv12 →
              cnd (decide (i < ((opsL : Nat) : Int)))
                (cnd (decide (i < (250 : Int)))
                  (∃ b o, opsA = some ⟨b, o, none⟩ ∧ 0 ≤ i ∧ i < (opsL : Nat) ∧ ∃ x : Int, hcell hv12 b (o + (Int.toNat i) * 4) = some (.int .i64 x) ∧ ∃ x2 : Int, hcell hv12 b ((o + (Int.toNat i) * 4) + 1) = some (.int .i64 x2) ∧ ∃ x3 : Int, hcell hv12 b (((o + (Int.toNat i) * 4) + 1) + 1) = some (.int .i64 x3) ∧ ∃ x4 : Int, hcell hv12 b ((((o + (Int.toNat i) * 4) + 1) + 1) + 1) = some (.int .i64 x4) ∧ callX Try.prog 108 #[.pointer (some (⟨hv9.size, 0, none⟩ : Addr)), .agg #[.int .i64 x, .int .i64 x2, .int .i64 x3, .int .i64 x4]] hv12 [] fun v7 hv13 =>
                  ∃ r5 : Bool, v7 = .bool r5 ∧
                  cnd (!r5)
                    (R (.bool false) hv13)
                    (callX Try.prog 109 #[.pointer (some (⟨hv9.size, 0, none⟩ : Addr))] hv13 [] fun v8 hv14 =>
                    ∃ r6 : Bool, v8 = .bool r6 ∧
                    cnd (!r6)
                      (R (.bool false) hv14)
                      (Iv [.int .i64 (IntKind.i64.wrap (i + (1 : Int)))] hv14 ∧ m [.int .i64 (IntKind.i64.wrap (i + (1 : Int)))] hv14 < m [.int .i64 i] hv12)))
                  (K2 hv12))
                (K2 hv12)))))))
theorem calls24 {h : Heap} {R : Value → Heap → Prop} (fromv : Int) (fromA : Option Addr) (fromL fromC : Nat) (opsA : Option Addr) (opsL opsC : Nat) (H : S24 fromv fromA fromL fromC opsA opsL opsC h R) : CallsH Try.prog 24 #[.agg #[.int .i64 fromv, .slice fromA fromL fromC], .slice opsA opsL opsC] h R := by
  have e : S24 fromv fromA fromL fromC opsA opsL opsC h R = FX (envX [2, 5] 75) { loops := [(0, ⟨[1, 10], [11], [], []⟩)], joins := [], blocks := [], draws := [] } Try.f24 (Try.f24.body.getD .skip) [.agg #[.int .i64 fromv, .slice fromA fromL fromC], .slice opsA opsL opsC] h R := by kernel_rfl
  exact calls_of_FX (envX_ok _ _) Try.func24 (by kernel_rfl) (by kernel_rfl) (by kernel_rfl) (e ▸ H)
/-- tracery/traceryref4.Of -/
def S107 (n : Int) (nA : Option Addr) (nL nC : Nat) (h : Heap) (R : Value → Heap → Prop) : Prop :=
  let hv : Heap := h.push (.cells #[.int .i64 n, .slice nA nL nC] 26)
  callX Try.prog 43 #[.agg #[.int .i64 n, .slice nA nL nC]] hv [h.size] fun v hv2 =>
  ∃ r : Bool, v = .bool r ∧
  cnd (!r)
    (R (.tuple #[.pointer none, .int .i64 1]) hv2)
    (let hv3 : Heap := hv2.push (.cells #[.slice none 0 0, .slice none 0 0, .int .i64 0, .int .i64 0, .slice none 0 0, .int .i64 0] 155)
    ∃ (Iv : List Value → Heap → Prop) (m : List Value → Heap → Nat), Iv [.int .i64 0] hv3 ∧ -- loop 0: ['i']
    ∀ i : Int, ∀ hv4, Iv [.int .i64 i] hv4 →
    cnd (decide (i < n))
      (callX Try.prog 186 #[.pointer (some (⟨hv2.size, 0, none⟩ : Addr))] hv4 [h.size] fun v2 hv5 =>
      ∃ ra : Int, ∃ rb : Int, v2 = .tuple #[.int .i64 ra, .int .i64 rb] ∧
      Iv [.int .i64 (IntKind.i64.wrap (i + (1 : Int)))] hv5 ∧ m [.int .i64 (IntKind.i64.wrap (i + (1 : Int)))] hv5 < m [.int .i64 i] hv4)
      (∃ (Iv2 : List Value → Heap → Prop) (m2 : List Value → Heap → Nat), Iv2 [.int .i64 0] hv4 ∧ -- loop 2: ['i']
      ∀ i2 : Int, ∀ hv6, Iv2 [.int .i64 i2] hv6 →
      cnd (decide (i2 < ((nL : Nat) : Int)))
        (∃ Mv : List Nat, (∀ b ∈ ([h.size] : List Nat), b ∉ Mv) ∧
        ∃ b o, nA = some ⟨b, o, none⟩ ∧ 0 ≤ i2 ∧ i2 < (nL : Nat) ∧ b ∉ Mv ∧ ∃ x : Int, hcell hv6 b ((o + (Int.toNat i2) * 2) + 0) = some (.int .i64 x) ∧ ∃ b2 o2, nA = some ⟨b2, o2, none⟩ ∧ 0 ≤ i2 ∧ i2 < (nL : Nat) ∧ b2 ∉ Mv ∧ ∃ x2 : Int, hcell hv6 b2 ((o2 + (Int.toNat i2) * 2) + 1) = some (.int .i64 x2) ∧ callX Try.prog 187 #[.pointer (some (⟨hv2.size, 0, none⟩ : Addr)), .int .i64 (IntKind.i64.wrap (x + (1 : Int))), .int .i64 (IntKind.i64.wrap (x2 + (1 : Int)))] hv6 [h.size] fun v3 hv7 =>
        ∃ ra2 : Int, ∃ rb2 : Int, v3 = .tuple #[.int .i64 ra2, .int .i64 rb2] ∧
        Fr Mv hv6 hv7 ∧
        Iv2 [.int .i64 (IntKind.i64.wrap (i2 + (1 : Int)))] hv7 ∧ m2 [.int .i64 (IntKind.i64.wrap (i2 + (1 : Int)))] hv7 < m2 [.int .i64 i2] hv6)
        (R (.tuple #[.pointer (some (⟨hv2.size, 0, none⟩ : Addr)), .int .i64 0]) hv6)))
theorem calls107 {h : Heap} {R : Value → Heap → Prop} (n : Int) (nA : Option Addr) (nL nC : Nat) (H : S107 n nA nL nC h R) : CallsH Try.prog 107 #[.agg #[.int .i64 n, .slice nA nL nC]] h R := by
  have e : S107 n nA nL nC h R = FX (envX [1] 44) { loops := [(0, ⟨[1, 4], [5], [1], []⟩), (2, ⟨[1, 4], [6], [1], []⟩)], joins := [], blocks := [], draws := [(11, ⟨16, true⟩)] } Try.f107 (Try.f107.body.getD .skip) [.agg #[.int .i64 n, .slice nA nL nC]] h R := by kernel_rfl
  exact calls_of_FX (envX_ok _ _) Try.func107 (by kernel_rfl) (by kernel_rfl) (by kernel_rfl) (e ▸ H)
/-- tracery/tracerylaw3.Light -/
def S59 (g : Int) (gA : Option Addr) (gL gC : Nat) (h : Heap) (R : Value → Heap → Prop) : Prop :=
  let hv : Heap := h.push (.cells #[.int .i64 g, .slice gA gL gC] 26)
  cnd (decide (((gL : Nat) : Int) ≤ (300 : Int)))
    (cnd (decide (g ≤ (300 : Int)))
      (R (.bool true) hv)
      (callX Try.prog 43 #[.agg #[.int .i64 g, .slice gA gL gC]] hv [h.size] fun v hv2 =>
      ∃ r : Bool, v = .bool r ∧
      R (.bool (!r)) hv2))
    (R (.bool false) hv)
theorem calls59 {h : Heap} {R : Value → Heap → Prop} (g : Int) (gA : Option Addr) (gL gC : Nat) (H : S59 g gA gL gC h R) : CallsH Try.prog 59 #[.agg #[.int .i64 g, .slice gA gL gC]] h R := by
  have e : S59 g gA gL gC h R = FX (envX [1] 17) { loops := [], joins := [], blocks := [], draws := [] } Try.f59 (Try.f59.body.getD .skip) [.agg #[.int .i64 g, .slice gA gL gC]] h R := by kernel_rfl
  exact calls_of_FX (envX_ok _ _) Try.func59 (by kernel_rfl) (by kernel_rfl) (by kernel_rfl) (e ▸ H)
/-- tracery/tracerylaw3.Light -/
def Ok59 (g : Int) (edgesV : List (Int × Int)) (R : Bool → Prop) : Prop :=
  ∀ (h : Heap) (gA : Option Addr) (gL gC : Nat), Hp h [Ck.vw eP gA gL gC edgesV] → CallsH Try.prog 59 #[.agg #[.int .i64 g, .slice gA gL gC]] h fun v h' => ∃ (rV : Bool), Sy h [] h' [] ∧ v = .bool rV ∧ R rV
theorem Ok59.mono {g edgesV} {R R' : Bool → Prop} (H : Ok59 g edgesV R) (kz : ∀ rV, R rV → R' rV) : Ok59 g edgesV R' :=
  fun h gA gL gC hp => (H h gA gL gC hp).mono fun _ _ ⟨rV, P, e, q⟩ => ⟨rV, P, e, kz _ q⟩
def T59 (g : Int) (edgesV : List (Int × Int)) (R : Bool → Prop) : Prop :=
  cnd (decide (((edgesV.length : Nat) : Int) ≤ (300 : Int)))
    (cnd (decide (g ≤ (300 : Int)))
      (R true)
      (Ok43 g edgesV (fun r =>
      R (!r))))
    (R false)
theorem ok59 {g edgesV} {R : Bool → Prop} (T : T59 g edgesV R) : Ok59 g edgesV R := by
  intro h gA gL gC H
  have Y : Sy h [] h _ := Sy.startM H rfl
  obtain rfl := Y.lenV 0 rfl
  apply calls59
  unfold S59
  unfold T59 at T
  intro hv
  have Y : Sy _ _ hv [_, _] := Y.junk _
  clear_value hv
  refine cnd_imp T (fun T => ?_) (fun T => ?_)
  · refine cnd_imp T (fun T => ?_) (fun T => ?_)
    · exact ⟨_, Y.pick [] rfl, rfl, T⟩
    · refine callX_sy (T _ _ _ _ (Y.pick [0] rfl).hp) (fun _ _ ⟨_, p, _⟩ => p.fr) (allc (fun h => by cases h) alln) ?_
      rintro v hv2 ⟨r, PP, rfl, T⟩
      have Y : Sy _ _ hv2 [_, _] := Y.gr PP.fr
      clear PP
      refine ⟨r, rfl, ?_⟩
      exact ⟨_, Y.pick [] rfl, rfl, T⟩
  · exact ⟨_, Y.pick [] rfl, rfl, T⟩
/-- tracery/traceryref3.Ints -/
def S68 (aA : Option Addr) (aL aC : Nat) (bA : Option Addr) (bL bC : Nat) (h : Heap) (R : Value → Heap → Prop) : Prop :=
  cnd (((aL : Nat) : Int) != ((bL : Nat) : Int))
    (R (.bool false) h)
    (∃ (Iv : List Value → Heap → Prop) (m : List Value → Heap → Nat), Iv [.int .i64 0] h ∧ -- loop 0: ['i']
    ∀ i : Int, ∀ hv, Iv [.int .i64 i] hv →
    cnd (decide (i < ((aL : Nat) : Int)))
      (∃ b o, aA = some ⟨b, o, none⟩ ∧ 0 ≤ i ∧ i < (aL : Nat) ∧ ∃ x : Int, hcell hv b (o + (Int.toNat i) * 1) = some (.int .i64 x) ∧ ∃ b2 o2, bA = some ⟨b2, o2, none⟩ ∧ 0 ≤ i ∧ i < (bL : Nat) ∧ ∃ x2 : Int, hcell hv b2 (o2 + (Int.toNat i) * 1) = some (.int .i64 x2) ∧ cnd (x != x2)
        (R (.bool false) hv)
        (Iv [.int .i64 (IntKind.i64.wrap (i + (1 : Int)))] hv ∧ m [.int .i64 (IntKind.i64.wrap (i + (1 : Int)))] hv < m [.int .i64 i] hv))
      (R (.bool true) hv))
theorem calls68 {h : Heap} {R : Value → Heap → Prop} (aA : Option Addr) (aL aC : Nat) (bA : Option Addr) (bL bC : Nat) (H : S68 aA aL aC bA bL bC h R) : CallsH Try.prog 68 #[.slice aA aL aC, .slice bA bL bC] h R := by
  have e : S68 aA aL aC bA bL bC h R = FX (envX [] 26) { loops := [(0, ⟨[0, 1], [5], [], []⟩)], joins := [], blocks := [], draws := [(6, ⟨9, false⟩)] } Try.f68 (Try.f68.body.getD .skip) [.slice aA aL aC, .slice bA bL bC] h R := by kernel_rfl
  exact calls_of_FX (envX_ok _ _) Try.func68 (by kernel_rfl) (by kernel_rfl) (by kernel_rfl) (e ▸ H)
/-- tracery/traceryref3.Ints -/
def Ok68 (aV : List Int) (bV : List Int) (R : Bool → Prop) : Prop :=
  ∀ (h : Heap) (aA : Option Addr) (aL aC : Nat) (bA : Option Addr) (bL bC : Nat), Hp h [Ck.vw eI aA aL aC aV, Ck.vw eI bA bL bC bV] → CallsH Try.prog 68 #[.slice aA aL aC, .slice bA bL bC] h fun v h' => ∃ (rV : Bool), Sy h [] h' [] ∧ v = .bool rV ∧ R rV
theorem Ok68.mono {aV bV} {R R' : Bool → Prop} (H : Ok68 aV bV R) (kz : ∀ rV, R rV → R' rV) : Ok68 aV bV R' :=
  fun h aA aL aC bA bL bC hp => (H h aA aL aC bA bL bC hp).mono fun _ _ ⟨rV, P, e, q⟩ => ⟨rV, P, e, kz _ q⟩
def T68 (aV : List Int) (bV : List Int) (R : Bool → Prop) : Prop :=
  cnd (((aV.length : Nat) : Int) != ((bV.length : Nat) : Int))
    (R false)
    (∃ (Iv : Int → Prop) (m : Int → Nat), Iv 0 ∧
    ∀ i : Int, Iv i →
    cnd (decide (i < ((aV.length : Nat) : Int)))
      (0 ≤ i ∧ i < ((aV.length : Nat) : Int) ∧ ∀ a : Int, aV[(Int.toNat i)]? = some a → 0 ≤ i ∧ i < ((bV.length : Nat) : Int) ∧ ∀ b_4 : Int, bV[(Int.toNat i)]? = some b_4 → cnd (a != b_4)
        (R false)
        (Iv (IntKind.i64.wrap (i + (1 : Int))) ∧ m (IntKind.i64.wrap (i + (1 : Int))) < m i))
      (R true))
theorem ok68 {aV bV} {R : Bool → Prop} (T : T68 aV bV R) : Ok68 aV bV R := by
  intro h aA aL aC bA bL bC H
  have Y : Sy h [] h _ := Sy.startM H rfl
  obtain rfl := Y.lenV 0 rfl
  obtain rfl := Y.lenV 1 rfl
  apply calls68
  unfold S68
  unfold T68 at T
  refine cnd_imp T (fun T => ?_) (fun T => ?_)
  · exact ⟨_, Y.pick [] rfl, rfl, T⟩
  · obtain ⟨Iv, m, T0, T1⟩ := T
    obtain ⟨B, hB, YB⟩ := Y.cut [] [0, 1] rfl
    obtain ⟨JJ, hJJ⟩ : ∃ JJ : Nat → List Value → Heap → Prop, JJ = (fun k lz h' => ∃ (i : Int), lz = [.int .i64 i] ∧ Sy h [] h' ([] ++ B) ∧ Iv i ∧ m i = k) := ⟨_, rfl⟩
    refine ⟨fun lz h' => ∃ k, JJ k lz h', Lm JJ, ?_, ?_⟩
    · subst hJJ hB
      exact ⟨_, _, rfl, YB, T0, rfl⟩
    · clear YB T0 Y
      intro i hv hI
      obtain ⟨k, hI, hm⟩ := loopIn hI
      subst hJJ hB
      obtain ⟨i, e, Y, T, rfl⟩ := hI
      cases e
      replace T := T1 i T
      have Y : Sy _ _ _ [_, _] := Y
      refine cnd_imp T (fun T => ?_) (fun T => ?_)
      · have Y0 := Y
        have F : Fr [] hv hv := Fr.refl _ _
        obtain ⟨q, q_2, T⟩ := T
        obtain ⟨b_2, o_2, hb, hr, a, hx⟩ := Y0.atV 0 rfl q q_2
        refine ⟨b_2, o_2, hb, q, q_2, ?_⟩
        replace T := T a hx
        refine ⟨_, Y0.cellV 0 rfl hb (t := 0) hx rfl, ?_⟩
        obtain ⟨q_3, q_4, T⟩ := T
        obtain ⟨b_3, o_3, hb_2, hr_2, b_4, hx_2⟩ := Y0.atV 1 rfl q_3 q_4
        refine ⟨b_3, o_3, hb_2, q_3, q_4, ?_⟩
        replace T := T b_4 hx_2
        refine ⟨_, Y0.cellV 1 rfl hb_2 (t := 0) hx_2 rfl, ?_⟩
        refine cnd_imp T (fun T => ?_) (fun T => ?_)
        · exact ⟨_, Y.pick [] rfl, rfl, T⟩
        · exact loopBack hm ⟨_, rfl, Y.pick [0, 1] rfl, T.1, rfl⟩ T.2
      · exact ⟨_, Y.pick [] rfl, rfl, T⟩
/-- (*tracery/tracerylaw4.run).same -/
def S109 (rP : Option Addr) (h : Heap) (R : Value → Heap → Prop) : Prop :=
  ∃ (Iv : List Value → Heap → Prop) (m : List Value → Heap → Nat), Iv [.int .i64 0] h ∧ -- loop 0: ['turn']
  ∀ turn : Int, ∀ hv, Iv [.int .i64 turn] hv →
  cnd (decide (turn < (2 : Int)))
    (∃ b o, rP = some ⟨b, o, none⟩ ∧ ∃ xP : Option Addr, hcell hv b o = some (.pointer xP) ∧ callX Try.prog 79 #[.pointer xP] hv [] fun v hv2 =>
    ∃ ra : Int, ∃ (raA : Option Addr) (raL raC : Nat), ∃ (rbA : Option Addr) (rbL rbC : Nat), ∃ (rcA : Option Addr) (rcL rcC : Nat), v = .tuple #[.agg #[.int .i64 ra, .slice raA raL raC], .slice rbA rbL rbC, .slice rcA rcL rcC] ∧
    let hv3 : Heap := hv2.push (.cells #[.int .i64 0, .slice none 0 0] 26)
    let hv4 : Heap := hset (hset hv3 hv2.size 0 (.int .i64 ra)) hv2.size (0 + 1) (.slice raA raL raC)
    ∃ b2 o2, rP = some ⟨b2, o2, none⟩ ∧ ∃ xP2 : Option Addr, hcell hv4 b2 (o2 + 1) = some (.pointer xP2) ∧ callX Try.prog 197 #[.pointer xP2] hv4 [hv2.size] fun v2 hv5 =>
    ∃ ra2 : Int, ∃ (raA2 : Option Addr) (raL2 raC2 : Nat), ∃ (rbA2 : Option Addr) (rbL2 rbC2 : Nat), ∃ (rcA2 : Option Addr) (rcL2 rcC2 : Nat), v2 = .tuple #[.agg #[.int .i64 ra2, .slice raA2 raL2 raC2], .slice rbA2 rbL2 rbC2, .slice rcA2 rcL2 rcC2] ∧
    let hv6 : Heap := hv5.push (.cells #[.int .i64 0, .slice none 0 0] 26)
    let hv7 : Heap := hset (hset hv6 hv5.size 0 (.int .i64 ra2)) hv5.size (0 + 1) (.slice raA2 raL2 raC2)
    let K := fun (hv11 : Heap) =>
      (R (.bool false) hv11)
    callX Try.prog 40 #[.agg #[.int .i64 ra, .slice raA raL raC], .agg #[.int .i64 ra2, .slice raA2 raL2 raC2]] hv7 [hv5.size, hv2.size] fun v3 hv8 =>
    ∃ r : Bool, v3 = .bool r ∧
    cnd (!r)
      (K hv8)
      (callX Try.prog 68 #[.slice rbA rbL rbC, .slice rbA2 rbL2 rbC2] hv8 [hv5.size, hv2.size] fun v4 hv9 =>
      ∃ r2 : Bool, v4 = .bool r2 ∧
      cnd (!r2)
        (K hv9)
        (callX Try.prog 68 #[.slice rcA rcL rcC, .slice rcA2 rcL2 rcC2] hv9 [hv5.size, hv2.size] fun v5 hv10 =>
        ∃ r3 : Bool, v5 = .bool r3 ∧
        cnd (!r3)
          (R (.bool false) hv10)
          (callX Try.prog 41 #[.agg #[.int .i64 ra, .slice raA raL raC]] hv10 [hv5.size, hv2.size] fun v6 hv12 =>
          v6 = .tuple #[] ∧
          ∃ (Iv2 : List Value → Heap → Prop) (m2 : List Value → Heap → Nat), Iv2 [.int .i64 0] hv12 ∧ -- loop 2: ['i']
          ∀ i : Int, ∀ hv13, Iv2 [.int .i64 i] hv13 →
          cnd (decide (i < ((rbL : Nat) : Int)))
            (∃ b3 o3, rbA = some ⟨b3, o3, none⟩ ∧ 0 ≤ i ∧ i < (rbL : Nat) ∧ (∃ u, hcell hv13 b3 (o3 + (Int.toNat i) * 1) = some u) ∧ hfree hv13 b3 (o3 + (Int.toNat i) * 1) = true ∧ let hv14 : Heap := hset hv13 b3 (o3 + (Int.toNat i) * 1) (.int .i64 (-1))
            Iv2 [.int .i64 (IntKind.i64.wrap (i + (1 : Int)))] hv14 ∧ m2 [.int .i64 (IntKind.i64.wrap (i + (1 : Int)))] hv14 < m2 [.int .i64 i] hv13)
            (∃ (Iv3 : List Value → Heap → Prop) (m3 : List Value → Heap → Nat), Iv3 [.int .i64 0] hv13 ∧ -- loop 4: ['i']
            ∀ i2 : Int, ∀ hv15, Iv3 [.int .i64 i2] hv15 →
            cnd (decide (i2 < ((rcL : Nat) : Int)))
              (∃ b4 o4, rcA = some ⟨b4, o4, none⟩ ∧ 0 ≤ i2 ∧ i2 < (rcL : Nat) ∧ (∃ u, hcell hv15 b4 (o4 + (Int.toNat i2) * 1) = some u) ∧ hfree hv15 b4 (o4 + (Int.toNat i2) * 1) = true ∧ let hv16 : Heap := hset hv15 b4 (o4 + (Int.toNat i2) * 1) (.int .i64 (-1))
              Iv3 [.int .i64 (IntKind.i64.wrap (i2 + (1 : Int)))] hv16 ∧ m3 [.int .i64 (IntKind.i64.wrap (i2 + (1 : Int)))] hv16 < m3 [.int .i64 i2] hv15)
              (Iv [.int .i64 (IntKind.i64.wrap (turn + (1 : Int)))] hv15 ∧ m [.int .i64 (IntKind.i64.wrap (turn + (1 : Int)))] hv15 < m [.int .i64 turn] hv))))))
    (R (.bool true) hv)
theorem calls109 {h : Heap} {R : Value → Heap → Prop} (rP : Option Addr) (H : S109 rP h R) : CallsH Try.prog 109 #[.pointer rP] h R := by
  have e : S109 rP h R = FX (envX [4, 7] 70) { loops := [(0, ⟨[0], [3], [], []⟩), (2, ⟨[0, 3, 5, 6], [10], [], []⟩), (4, ⟨[0, 3, 6], [11], [], []⟩)], joins := [], blocks := [], draws := [] } Try.f109 (Try.f109.body.getD .skip) [.pointer rP] h R := by kernel_rfl
  exact calls_of_FX (envX_ok _ _) Try.func109 (by kernel_rfl) (by kernel_rfl) (by kernel_rfl) (e ▸ H)
/-- (*tracery/tracerylaw4.run).same -/
def Ok109 (aG : Gr) (bD : RG) (marksV : List Int) (R : Gr → RG → Bool → Prop) : Prop :=
  ∀ (h : Heap) (rB rO : Nat) (aB : Nat) (aS : List Nat) (bB : Nat) (bS : List Nat) (marksVA : Option Addr) (marksVL marksVC : Nat), Hp h [Ck.vob rB rO [.pointer (some ⟨aB, 0, none⟩), .pointer (some ⟨bB, 0, none⟩), .slice marksVA marksVL marksVC], Ck.gr aB aS aG, Ck.rg bB bS bD, Ck.vw eI marksVA marksVL marksVC marksV] → CallsH Try.prog 109 #[.pointer (some ⟨rB, rO, none⟩)] h fun v h' => ∃ (aS2 : List Nat) (aG1 : Gr) (bS2 : List Nat) (bD1 : RG) (rV : Bool), Sy h (owns [Ck.gr aB aS aG, Ck.rg bB bS bD]) h' [Ck.gr aB aS2 aG1, Ck.rg bB bS2 bD1] ∧ v = .bool rV ∧ R aG1 bD1 rV
theorem Ok109.mono {aG bD marksV} {R R' : Gr → RG → Bool → Prop} (H : Ok109 aG bD marksV R) (kz : ∀ aG1 bD1 rV, R aG1 bD1 rV → R' aG1 bD1 rV) : Ok109 aG bD marksV R' :=
  fun h rB rO aB aS bB bS marksVA marksVL marksVC hp => (H h rB rO aB aS bB bS marksVA marksVL marksVC hp).mono fun _ _ ⟨aS2, aG1, bS2, bD1, rV, P, e, q⟩ => ⟨aS2, aG1, bS2, bD1, rV, P, e, kz _ _ _ q⟩
def T109 (aG : Gr) (bD : RG) (marksV : List Int) (R : Gr → RG → Bool → Prop) : Prop :=
  ∃ (Iv : Int → Gr → RG → Prop) (m : Int → Gr → RG → Nat), Iv 0 aG bD ∧
  ∀ turn : Int, ∀ aG_2 : Gr, ∀ bD_2 : RG, Iv turn aG_2 bD_2 →
  cnd (decide (turn < (2 : Int)))
    (Ok79 aG_2 (fun gG1 ra ra_2 rb rc =>
    Ok197 bD_2 (fun gD1 ra2 ra_3 rb_2 rc_2 =>
    ∃ Jv : Prop,
    ( Ok40 ra ra_2 ra2 ra_3 (fun r =>
     cnd (!r)
       (Jv)
       (Ok68 rb rb_2 (fun r2 =>
       cnd (!r2)
         (Jv)
         (Ok68 rc rc_2 (fun r3 =>
         cnd (!r3)
           (R gG1 gD1 false)
           (Ok41 ra ra_2 (∃ (Iv2 : Int → List Int → Prop) (m2 : Int → List Int → Nat), Iv2 0 rb ∧
           ∀ i : Int, ∀ rb_3 : List Int, Iv2 i rb_3 →
           cnd (decide (i < ((rb.length : Nat) : Int)))
             (0 ≤ i ∧ i < ((rb.length : Nat) : Int) ∧ Iv2 (IntKind.i64.wrap (i + (1 : Int))) (rb_3.set (Int.toNat i) (-1)) ∧ m2 (IntKind.i64.wrap (i + (1 : Int))) (rb_3.set (Int.toNat i) (-1)) < m2 i rb_3)
             (∃ (Iv3 : Int → List Int → Prop) (m3 : Int → List Int → Nat), Iv3 0 rc ∧
             ∀ i2 : Int, ∀ rc_3 : List Int, Iv3 i2 rc_3 →
             cnd (decide (i2 < ((rc.length : Nat) : Int)))
               (0 ≤ i2 ∧ i2 < ((rc.length : Nat) : Int) ∧ Iv3 (IntKind.i64.wrap (i2 + (1 : Int))) (rc_3.set (Int.toNat i2) (-1)) ∧ m3 (IntKind.i64.wrap (i2 + (1 : Int))) (rc_3.set (Int.toNat i2) (-1)) < m3 i2 rc_3)
               (Iv (IntKind.i64.wrap (turn + (1 : Int))) gG1 gD1 ∧ m (IntKind.i64.wrap (turn + (1 : Int))) gG1 gD1 < m turn aG_2 bD_2)))))))))) ∧
    (Jv →
    R gG1 gD1 false))))
    (R aG_2 bD_2 true)
theorem ok109 {aG bD marksV} {R : Gr → RG → Bool → Prop} (T : T109 aG bD marksV R) : Ok109 aG bD marksV R := by
  intro h rB rO aB aS bB bS marksVA marksVL marksVC H
  have Y : Sy h (owns [Ck.gr aB aS aG, Ck.rg bB bS bD]) h _ := Sy.startM H rfl
  obtain rfl := Y.lenV 3 rfl
  apply calls109
  unfold S109
  unfold T109 at T
  obtain ⟨Iv, m, T0, T1⟩ := T
  obtain ⟨B, hB, YB⟩ := Y.cut [1, 2] [0, 3] rfl
  obtain ⟨F, hF⟩ := Y.fnG (k := 1) rfl
  obtain ⟨F_2, hF_2⟩ := Y.fnD (k := 2) rfl
  obtain ⟨JJ, hJJ⟩ : ∃ JJ : Nat → List Value → Heap → Prop, JJ = (fun k lz h' => ∃ (turn : Int) (gS : List Nat) (aG_2 : Gr) (gS_2 : List Nat) (bD_2 : RG), lz = [.int .i64 turn] ∧ Sy h (owns [Ck.gr aB aS aG, Ck.rg bB bS bD]) h' ([F gS aG_2, F_2 gS_2 bD_2] ++ B) ∧ Iv turn aG_2 bD_2 ∧ m turn aG_2 bD_2 = k) := ⟨_, rfl⟩
  refine ⟨fun lz h' => ∃ k, JJ k lz h', Lm JJ, ?_, ?_⟩
  · subst hJJ hB hF hF_2
    exact ⟨_, _, _, _, _, _, rfl, YB, T0, rfl⟩
  · clear YB T0 Y
    intro turn hv hI
    obtain ⟨k, hI, hm⟩ := loopIn hI
    subst hJJ hB hF hF_2
    obtain ⟨turn, gS, aG_2, gS_2, bD_2, e, Y, T, rfl⟩ := hI
    cases e
    replace T := T1 turn aG_2 bD_2 T
    have Y : Sy _ _ _ [_, _, _, _] := Y
    refine cnd_imp T (fun T => ?_) (fun T => ?_)
    · refine ⟨rB, rO, rfl, ?_⟩
      refine ⟨_, Y.cellW 2 rfl 0 rfl, ?_⟩
      refine callX_sy (T _ _ _ (Y.pick [0] rfl).hp) (fun _ _ ⟨_, _, _, _, _, _, _, _, _, _, _, _, _, _, _, p, _⟩ => p.fr) alln ?_
      rintro v hv2 ⟨gS2, gG1, ra, raA, raL, raC, ra_2, rbA, rbL, rbC, rb, rcA, rcL, rcC, rc, PP, rfl, T⟩
      have Y : Sy _ _ hv2 [_, _, _, _, _, _, _] := Y.call2 [0, 1, 2, 3] rfl (A := [_]) rfl rfl PP ⟨rfl, ⟨rfl, ⟨rfl, ⟨rfl, trivial⟩⟩⟩⟩
      clear PP
      obtain rfl := Y.lenS 1 rfl
      obtain rfl := Y.lenS 2 rfl
      obtain rfl := Y.lenS 3 rfl
      refine ⟨ra, _, _, _, _, _, _, _, _, _, rfl, ?_⟩
      intro hv3
      have Y : Sy _ _ hv3 [_, _, _, _, _, _, _, _] := Y.junk _
      clear_value hv3
      intro hv4
      have Y : Sy _ _ hv4 [_, _, _, _, _, _, _, _] := ((Y.stJ 7 rfl _ _).stJ 7 rfl _ _)
      clear_value hv4
      refine ⟨rB, rO, rfl, ?_⟩
      refine ⟨_, Y.cellW 5 rfl 1 rfl, ?_⟩
      refine callX_sy (T _ _ _ (Y.pick [4] rfl).hp) (fun _ _ ⟨_, _, _, _, _, _, _, _, _, _, _, _, _, _, _, p, _⟩ => p.fr) (allc (Y.nO 7 [4] rfl rfl) alln) ?_
      rintro v2 hv5 ⟨gS2_2, gD1, ra2, raA2, raL2, raC2, ra_3, rbA2, rbL2, rbC2, rb_2, rcA2, rcL2, rcC2, rc_2, PP, rfl, T⟩
      have Y : Sy _ _ hv5 [_, _, _, _, _, _, _, _, _, _, _] := Y.call2 [4, 0, 1, 2, 3, 5, 6, 7] rfl (A := [_]) rfl rfl PP ⟨rfl, ⟨rfl, ⟨rfl, ⟨rfl, trivial⟩⟩⟩⟩
      clear PP
      obtain rfl := Y.lenS 1 rfl
      obtain rfl := Y.lenS 2 rfl
      obtain rfl := Y.lenS 3 rfl
      refine ⟨ra2, _, _, _, _, _, _, _, _, _, rfl, ?_⟩
      intro hv6
      have Y : Sy _ _ hv6 [_, _, _, _, _, _, _, _, _, _, _, _] := Y.junk _
      clear_value hv6
      intro hv7
      have Y : Sy _ _ hv7 [_, _, _, _, _, _, _, _, _, _, _, _] := ((Y.stJ 11 rfl _ _).stJ 11 rfl _ _)
      clear_value hv7
      obtain ⟨Jv, T0, T1⟩ := T
      obtain ⟨B_2, hB_2, _⟩ := Y.cut [] [0, 1, 2, 3, 4, 5, 6, 7, 8, 9, 10, 11] rfl
      intro K
      have hK : ∀  (hv11 : Heap), (Sy h (owns [Ck.gr aB aS aG, Ck.rg bB bS bD]) hv11 ([] ++ B_2) ∧ Jv) → K hv11 := by
        subst hB_2
        clear T0 Y
        rintro hv11 ⟨Y, T⟩
        replace T := T1 T
        have Y : Sy _ _ _ [_, _, _, _, _, _, _, _, _, _, _, _] := Y
        unfold K
        exact ⟨_, _, _, _, _, Y.pick [4, 0] rfl, rfl, T⟩
      subst hB_2
      replace T := T0
      clear T0 T1
      refine callX_sy (T _ _ _ _ _ _ _ (((Y.turn 5 rfl To.slvw).turn 1 rfl To.slvw).pick [5, 1] rfl).hp) (fun _ _ ⟨_, p, _⟩ => p.fr) (allc (fun h => by cases h) (allc (fun h => by cases h) alln)) ?_
      rintro v3 hv8 ⟨r, PP, rfl, T⟩
      have Y : Sy _ _ hv8 [_, _, _, _, _, _, _, _, _, _, _, _] := Y.gr PP.fr
      clear PP
      refine ⟨r, rfl, ?_⟩
      refine cnd_imp T (fun T => ?_) (fun T => ?_)
      · exact hK _ ⟨Y.pick [0, 1, 2, 3, 4, 5, 6, 7, 8, 9, 10, 11] rfl, T⟩
      · refine callX_sy (T _ _ _ _ _ _ _ (((Y.turn 6 rfl To.slvw).turn 2 rfl To.slvw).pick [6, 2] rfl).hp) (fun _ _ ⟨_, p, _⟩ => p.fr) (allc (fun h => by cases h) (allc (fun h => by cases h) alln)) ?_
        rintro v4 hv9 ⟨r2, PP, rfl, T⟩
        have Y : Sy _ _ hv9 [_, _, _, _, _, _, _, _, _, _, _, _] := Y.gr PP.fr
        clear PP
        refine ⟨r2, rfl, ?_⟩
        refine cnd_imp T (fun T => ?_) (fun T => ?_)
        · exact hK _ ⟨Y.pick [0, 1, 2, 3, 4, 5, 6, 7, 8, 9, 10, 11] rfl, T⟩
        · refine callX_sy (T _ _ _ _ _ _ _ (((Y.turn 7 rfl To.slvw).turn 3 rfl To.slvw).pick [7, 3] rfl).hp) (fun _ _ ⟨_, p, _⟩ => p.fr) (allc (fun h => by cases h) (allc (fun h => by cases h) alln)) ?_
          rintro v5 hv10 ⟨r3, PP, rfl, T⟩
          have Y : Sy _ _ hv10 [_, _, _, _, _, _, _, _, _, _, _, _] := Y.gr PP.fr
          clear PP
          refine ⟨r3, rfl, ?_⟩
          refine cnd_imp T (fun T => ?_) (fun T => ?_)
          · exact ⟨_, _, _, _, _, Y.pick [4, 0] rfl, rfl, T⟩
          · refine callX_sy (T _ _ _ _ (Y.pick [5] rfl).hp) (fun _ _ ⟨p, _⟩ => p.fr) (allc (Y.nO 11 [5] rfl rfl) (allc (Y.nO 10 [5] rfl rfl) alln)) ?_
            rintro v6 hv12 ⟨PP, rfl, T⟩
            have Y : Sy _ _ hv12 [_, _, _, _, _, _, _, _, _, _, _] := Y.call2 [5, 0, 1, 2, 3, 4, 6, 7, 8, 9, 10, 11] rfl (A := [_]) rfl rfl PP trivial
            clear PP
            refine ⟨rfl, ?_⟩
            obtain ⟨Iv2, m2, T0, T1⟩ := T
            obtain ⟨B_3, hB_3, YB⟩ := Y.cut [5] [0, 1, 2, 3, 4, 6, 7, 8, 9, 10] rfl
            obtain ⟨F_3, hF_3⟩ := Y.fnS (k := 5) rfl
            obtain ⟨JJ_2, hJJ_2⟩ : ∃ JJ_2 : Nat → List Value → Heap → Prop, JJ_2 = (fun k_2 lz h' => ∃ (i : Int) (rb_3 : List Int), lz = [.int .i64 i] ∧ Sy h (owns [Ck.gr aB aS aG, Ck.rg bB bS bD]) h' ([F_3 rb_3] ++ B_3) ∧ Iv2 i rb_3 ∧ m2 i rb_3 = k_2) := ⟨_, rfl⟩
            refine ⟨fun lz h' => ∃ k_2, JJ_2 k_2 lz h', Lm JJ_2, ?_, ?_⟩
            · subst hJJ_2 hB_3 hF_3
              exact ⟨_, _, _, rfl, YB, T0, rfl⟩
            · clear YB T0 Y
              intro i hv13 hI
              obtain ⟨k_2, hI, hm_2⟩ := loopIn hI
              subst hJJ_2 hB_3 hF_3
              obtain ⟨i, rb_3, e, Y, T, rfl⟩ := hI
              cases e
              replace T := T1 i rb_3 T
              have Y : Sy _ _ _ [_, _, _, _, _, _, _, _, _, _, _] := Y
              refine cnd_imp T (fun T => ?_) (fun T => ?_)
              · obtain ⟨q, q_2, T⟩ := T
                obtain ⟨b_2, hb, ho, rb_4, hx⟩ := Y.atS 0 rfl q q_2
                refine ⟨b_2, 0, hb, q, q_2, ?_⟩
                refine ⟨Y.cellEx 0 rfl hb (t := 0) (by omega) (by decide), Y.freeS 0 rfl hb _, ?_⟩
                intro hv14
                have Y : Sy _ _ hv14 [_, _, _, _, _, _, _, _, _, _, _] := Y.st1 0 rfl hb (-1) (by omega) rfl
                clear_value hv14
                exact loopBack hm_2 ⟨_, _, rfl, Y.pick [0, 1, 2, 3, 4, 5, 6, 7, 8, 9, 10] rfl, T.1, rfl⟩ T.2
              · obtain ⟨Iv3, m3, T0, T1⟩ := T
                obtain ⟨B_4, hB_4, YB⟩ := Y.cut [6] [0, 1, 2, 3, 4, 5, 7, 8, 9, 10] rfl
                obtain ⟨F_4, hF_4⟩ := Y.fnS (k := 6) rfl
                obtain ⟨JJ_3, hJJ_3⟩ : ∃ JJ_3 : Nat → List Value → Heap → Prop, JJ_3 = (fun k_3 lz h' => ∃ (i2 : Int) (rc_3 : List Int), lz = [.int .i64 i2] ∧ Sy h (owns [Ck.gr aB aS aG, Ck.rg bB bS bD]) h' ([F_4 rc_3] ++ B_4) ∧ Iv3 i2 rc_3 ∧ m3 i2 rc_3 = k_3) := ⟨_, rfl⟩
                refine ⟨fun lz h' => ∃ k_3, JJ_3 k_3 lz h', Lm JJ_3, ?_, ?_⟩
                · subst hJJ_3 hB_4 hF_4
                  exact ⟨_, _, _, rfl, YB, T0, rfl⟩
                · clear YB T0 Y
                  intro i2 hv15 hI
                  obtain ⟨k_3, hI, hm_3⟩ := loopIn hI
                  subst hJJ_3 hB_4 hF_4
                  obtain ⟨i2, rc_3, e, Y, T, rfl⟩ := hI
                  cases e
                  replace T := T1 i2 rc_3 T
                  have Y : Sy _ _ _ [_, _, _, _, _, _, _, _, _, _, _] := Y
                  refine cnd_imp T (fun T => ?_) (fun T => ?_)
                  · obtain ⟨q_3, q_4, T⟩ := T
                    obtain ⟨b_3, hb_2, ho_2, rc_4, hx_2⟩ := Y.atS 0 rfl q_3 q_4
                    refine ⟨b_3, 0, hb_2, q_3, q_4, ?_⟩
                    refine ⟨Y.cellEx 0 rfl hb_2 (t := 0) (by omega) (by decide), Y.freeS 0 rfl hb_2 _, ?_⟩
                    intro hv16
                    have Y : Sy _ _ hv16 [_, _, _, _, _, _, _, _, _, _, _] := Y.st1 0 rfl hb_2 (-1) (by omega) rfl
                    clear_value hv16
                    exact loopBack hm_3 ⟨_, _, rfl, Y.pick [0, 1, 2, 3, 4, 5, 6, 7, 8, 9, 10] rfl, T.1, rfl⟩ T.2
                  · exact loopBack hm ⟨_, _, _, _, _, rfl, Y.pick [6, 2, 7, 8] rfl, T.1, rfl⟩ T.2
    · exact ⟨_, _, _, _, _, Y.pick [0, 1] rfl, rfl, T⟩
end Go.Proofs.Ytmcloipjlihhlaa.N
