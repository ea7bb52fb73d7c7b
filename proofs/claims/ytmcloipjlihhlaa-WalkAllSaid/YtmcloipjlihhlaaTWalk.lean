/- Functions: what is left to be shown of each, over memory and without: printed by program, tied to the loaded functions by the kernel. Conditions: none. -/
import Derived.Test.YtmcloipjlihhlaaSEnv
import Derived.Test.YtmcloipjlihhlaaYMore
import Derived.Test.YtmcloipjlihhlaaTMay
namespace Go.Proofs.Ytmcloipjlihhlaa.N
open Go.Proofs.Ytmcloipjlihhlaa
open Go.X
set_option maxRecDepth 100000
set_option linter.unusedVariables false
set_option linter.unusedSimpArgs false
set_option maxHeartbeats 2000000

/-- tracery/walk.faulty -/
def S174 (g : Int) (gA : Option Addr) (gL gC : Nat) (s : Int) (h : Heap) (R : Value → Heap → Prop) : Prop :=
  let hv : Heap := h.push (.cells #[.int .i64 g, .slice gA gL gC] 26)
  callX Try.prog 140 #[.agg #[.int .i64 g, .slice gA gL gC]] hv [h.size] fun v hv2 =>
  ∃ r : Bool, v = .bool r ∧
  cnd (!r)
    (R (.int .i64 1) hv2)
    (cnd (decide (s < (0 : Int)))
      (R (.int .i64 2) hv2)
      (cnd (decide (s ≥ g))
        (R (.int .i64 2) hv2)
        (R (.int .i64 0) hv2)))
theorem calls174 {h : Heap} {R : Value → Heap → Prop} (g : Int) (gA : Option Addr) (gL gC : Nat) (s : Int) (H : S174 g gA gL gC s h R) : CallsH Try.prog 174 #[.agg #[.int .i64 g, .slice gA gL gC], .int .i64 s] h R := by
  have e : S174 g gA gL gC s h R = FX (envX [2] 18) { loops := [], joins := [], blocks := [], draws := [] } Try.f174 (Try.f174.body.getD .skip) [.agg #[.int .i64 g, .slice gA gL gC], .int .i64 s] h R := by kernel_rfl
  exact calls_of_FX (envX_ok _ _) Try.func174 (by kernel_rfl) (by kernel_rfl) (by kernel_rfl) (e ▸ H)
/-- tracery/walk.faulty -/
def Ok174 (g : Int) (edgesV : List (Int × Int)) (s : Int) (R : Int → Prop) : Prop :=
  ∀ (h : Heap) (gA : Option Addr) (gL gC : Nat), Hp h [Ck.vw eP gA gL gC edgesV] → CallsH Try.prog 174 #[.agg #[.int .i64 g, .slice gA gL gC], .int .i64 s] h fun v h' => ∃ (rV : Int), Sy h [] h' [] ∧ v = .int .i64 rV ∧ R rV
theorem Ok174.mono {g edgesV s} {R R' : Int → Prop} (H : Ok174 g edgesV s R) (kz : ∀ rV, R rV → R' rV) : Ok174 g edgesV s R' :=
  fun h gA gL gC hp => (H h gA gL gC hp).mono fun _ _ ⟨rV, P, e, q⟩ => ⟨rV, P, e, kz _ q⟩
def T174 (g : Int) (edgesV : List (Int × Int)) (s : Int) (R : Int → Prop) : Prop :=
  Ok140 g edgesV (fun r =>
  cnd (!r)
    (R 1)
    (cnd (decide (s < (0 : Int)))
      (R 2)
      (cnd (decide (s ≥ g))
        (R 2)
        (R 0))))
theorem ok174 {g edgesV s} {R : Int → Prop} (T : T174 g edgesV s R) : Ok174 g edgesV s R := by
  intro h gA gL gC H
  have Y : Sy h [] h _ := Sy.startM H rfl
  obtain rfl := Y.lenV 0 rfl
  apply calls174
  unfold S174
  unfold T174 at T
  intro hv
  have Y : Sy _ _ hv [_, _] := Y.junk _
  clear_value hv
  refine callX_sy (T _ _ _ _ (Y.pick [0] rfl).hp) (fun _ _ ⟨_, p, _⟩ => p.fr) (allc (fun h => by cases h) alln) ?_
  rintro v hv2 ⟨r, PP, rfl, T⟩
  have Y : Sy _ _ hv2 [_, _] := Y.gr PP.fr
  clear PP
  refine ⟨r, rfl, ?_⟩
  refine cnd_imp T (fun T => ?_) (fun T => ?_)
  · exact ⟨_, Y.pick [] rfl, rfl, T⟩
  · refine cnd_imp T (fun T => ?_) (fun T => ?_)
    · exact ⟨_, Y.pick [] rfl, rfl, T⟩
    · refine cnd_imp T (fun T => ?_) (fun T => ?_)
      · exact ⟨_, Y.pick [] rfl, rfl, T⟩
      · exact ⟨_, Y.pick [] rfl, rfl, T⟩
/-- tracery/walk.of -/
def S175 (g : Int) (gA : Option Addr) (gL gC : Nat) (h : Heap) (R : Value → Heap → Prop) : Prop :=
  let hv : Heap := h.push (.cells #[.int .i64 g, .slice gA gL gC] 26)
  0 ≤ g ∧ g ≤ g ∧ ((24 : Nat) : Int) * g ≤ 281474976710656 ∧ g ≤ 9223372036854775807 ∧ let hv2 : Heap := hv.push (.cells (madeCells (List.toArray [.slice none 0 0]) (Int.toNat g * 1)) 40)
  Fr [] hv hv2 ∧
  let hv3 : Heap := hv2.push (.cells #[.int .i64 g, .slice gA gL gC, .slice (some (⟨hv.size, 0, none⟩ : Addr)) (Int.toNat g) (Int.toNat g)] 219)
  Fr [] hv hv3 ∧
  ∃ (Iv : List Value → Heap → Prop) (m : List Value → Heap → Nat), Iv [.int .i64 0] hv3 ∧ -- loop 0: ['17']
  ∀ x : Int, ∀ hv4, Iv [.int .i64 x] hv4 →
  cnd (decide (x < ((gL : Nat) : Int)))
    (∃ b o, gA = some ⟨b, o, none⟩ ∧ 0 ≤ x ∧ x < (gL : Nat) ∧ ∃ x2 : Int, hcell hv4 b (o + (Int.toNat x) * 2) = some (.int .i64 x2) ∧ ∃ x3 : Int, hcell hv4 b ((o + (Int.toNat x) * 2) + 1) = some (.int .i64 x3) ∧ let hv5 : Heap := hv4.push (.cells #[.int .i64 0, .int .i64 0] 35)
    let hv6 : Heap := hset (hset hv5 hv4.size 0 (.int .i64 x2)) hv4.size (0 + 1) (.int .i64 x3)
    ∃ (Iv2 : List Value → Heap → Prop) (m2 : List Value → Heap → Nat), Iv2 [.int .i64 0] hv6 ∧ -- loop 2: ['23']
    ∀ x4 : Int, ∀ hv7, Iv2 [.int .i64 x4] hv7 →
    cnd (decide (x4 < (2 : Int)))
      (0 ≤ x4 ∧ x4 < ((2 : Nat) : Int) ∧ ∃ x5 : Int, (#[.int .i64 x2, .int .i64 x3] : Array Value)[Int.toNat x4]? = some (.int .i64 x5) ∧ ∃ Mv : List Nat, (∀ b ∈ ([] : List Nat), b ∉ Mv) ∧
      hv2.size ∉ Mv ∧ ∃ (xA : Option Addr) (xL xC : Nat), hcell hv7 hv2.size (0 + 2) = some (.slice xA xL xC) ∧ hv2.size ∉ Mv ∧ ∃ (xA2 : Option Addr) (xL2 xC2 : Nat), hcell hv7 hv2.size (0 + 2) = some (.slice xA2 xL2 xC2) ∧ ∃ b2 o2, xA2 = some ⟨b2, o2, none⟩ ∧ 0 ≤ x5 ∧ x5 < (xL2 : Nat) ∧ b2 ∉ Mv ∧ ∃ (xA3 : Option Addr) (xL3 xC3 : Nat), hcell hv7 b2 (o2 + (Int.toNat x5) * 1) = some (.slice xA3 xL3 xC3) ∧ let hv8 : Heap := hv7.push (.cells #[.int .i64 (IntKind.i64.wrap ((IntKind.i64.wrap ((2 : Int) * x)) + x4))] 3)
      Fr Mv hv7 hv8 ∧
      ∃ old, Ownd hv8 3 1 xA3 xL3 xC3 old ∧ (∀ b ∈ ([hv7.size] : List Nat), b ∉ blkOf xA3) ∧ (xL3 + 1) * 8 ≤ 140737488355328 ∧ (xL3 + 1) ≤ maxLen ∧
      ∀ sA sC hv9, Ownd hv9 3 1 sA (xL3 + 1) sC (old ++ [.int .i64 (IntKind.i64.wrap ((IntKind.i64.wrap ((2 : Int) * x)) + x4))]) → Fr (blkOf xA3) hv8 hv9 → ((sA = xA3 ∧ sC = xC3) ∨ ∃ g, sA = some ⟨g, 0, none⟩ ∧ hv8.size ≤ g) → (xC3 < (xL3 + 1) → Fr [] hv8 hv9) →
      Fr Mv hv7 hv9 ∧
      ∃ b3 o3, xA = some ⟨b3, o3, none⟩ ∧ 0 ≤ x5 ∧ x5 < (xL : Nat) ∧ b3 ≠ hv7.size ∧ (∃ u, hcell hv9 b3 (o3 + (Int.toNat x5) * 1) = some u) ∧ hfree hv9 b3 (o3 + (Int.toNat x5) * 1) = true ∧ let hv10 : Heap := hset hv9 b3 (o3 + (Int.toNat x5) * 1) (.slice sA (xL3 + 1) sC)
      Iv2 [.int .i64 (IntKind.i64.wrap (x4 + (1 : Int)))] hv10 ∧ m2 [.int .i64 (IntKind.i64.wrap (x4 + (1 : Int)))] hv10 < m2 [.int .i64 x4] hv7)
      (Iv [.int .i64 (IntKind.i64.wrap (x + (1 : Int)))] hv7 ∧ m [.int .i64 (IntKind.i64.wrap (x + (1 : Int)))] hv7 < m [.int .i64 x] hv4))
    (R (.pointer (some (⟨hv2.size, 0, none⟩ : Addr))) hv4)
theorem calls175 {h : Heap} {R : Value → Heap → Prop} (g : Int) (gA : Option Addr) (gL gC : Nat) (H : S175 g gA gL gC h R) : CallsH Try.prog 175 #[.agg #[.int .i64 g, .slice gA gL gC]] h R := by
  have e : S175 g gA gL gC h R = FX (envX [1, 5, 43] 49) { loops := [(0, ⟨[3, 15, 16], [17], [], []⟩), (2, ⟨[3, 4, 15, 16, 17, 22], [23], [], []⟩)], joins := [], blocks := [], draws := [(1, ⟨7, false⟩), (8, ⟨18, true⟩)] } Try.f175 (Try.f175.body.getD .skip) [.agg #[.int .i64 g, .slice gA gL gC]] h R := by kernel_rfl
  exact calls_of_FX (envX_ok _ _) Try.func175 (by kernel_rfl) (by kernel_rfl) (by kernel_rfl) (e ▸ H)
/-- tracery/walk.of -/
def Ok175 (g : Int) (edgesV : List (Int × Int)) (R : Int → List (List Int) → Prop) : Prop :=
  ∀ (h : Heap) (gA : Option Addr) (gL gC : Nat), Hp h [Ck.vw eP gA gL gC edgesV] → CallsH Try.prog 175 #[.agg #[.int .i64 g, .slice gA gL gC]] h fun v h' => ∃ (rB : Nat) (nV : Int) (outVA : Option Addr) (outVL outVC : Nat) (outH : List RowH) (outV : List (List Int)), Sy h [] h' [Ck.ob rB 219 [.int .i64 nV, .slice gA gL gC, .slice outVA outVL outVC], Ck.rows eI 40 3 outVA outVL outVC outH outV] ∧ v = .pointer (some ⟨rB, 0, none⟩) ∧ R nV outV
theorem Ok175.mono {g edgesV} {R R' : Int → List (List Int) → Prop} (H : Ok175 g edgesV R) (kz : ∀ nV outV, R nV outV → R' nV outV) : Ok175 g edgesV R' :=
  fun h gA gL gC hp => (H h gA gL gC hp).mono fun _ _ ⟨rB, nV, outVA, outVL, outVC, outH, outV, P, e, q⟩ => ⟨rB, nV, outVA, outVL, outVC, outH, outV, P, e, kz _ _ q⟩
def T175 (g : Int) (edgesV : List (Int × Int)) (R : Int → List (List Int) → Prop) : Prop :=
  0 ≤ g ∧ g ≤ 1000000000000 ∧ ∃ (Iv : Int → List (List Int) → Prop) (m : Int → List (List Int) → Nat), Iv 0 (List.replicate (Int.toNat g) []) ∧
  ∀ x : Int, ∀ y : List (List Int), Iv x y →
  cnd (decide (x < ((edgesV.length : Nat) : Int)))
    (0 ≤ x ∧ x < ((edgesV.length : Nat) : Int) ∧ ∀ g_2 : (Int × Int), edgesV[(Int.toNat x)]? = some g_2 → ∃ (Iv2 : Int → List (List Int) → Prop) (m2 : Int → List (List Int) → Nat), Iv2 0 y ∧
    ∀ x4 : Int, ∀ y_2 : List (List Int), Iv2 x4 y_2 →
    cnd (decide (x4 < (2 : Int)))
      (0 ≤ x4 ∧ x4 < ((2 : Nat) : Int) ∧ ∃ x5 : Int, (#[.int .i64 g_2.1, .int .i64 g_2.2] : Array Value)[Int.toNat x4]? = some (.int .i64 x5) ∧ 0 ≤ x5 ∧ x5 < ((y_2.length : Nat) : Int) ∧ ∀ x_2 : List Int, y_2[(Int.toNat x5)]? = some x_2 → (x_2.length + 1) < 1000000000000 ∧ 0 ≤ x5 ∧ x5 < ((y_2.length : Nat) : Int) ∧ Iv2 (IntKind.i64.wrap (x4 + (1 : Int))) (y_2.set (Int.toNat x5) (x_2 ++ [(IntKind.i64.wrap ((IntKind.i64.wrap ((2 : Int) * x)) + x4))])) ∧ m2 (IntKind.i64.wrap (x4 + (1 : Int))) (y_2.set (Int.toNat x5) (x_2 ++ [(IntKind.i64.wrap ((IntKind.i64.wrap ((2 : Int) * x)) + x4))])) < m2 x4 y_2)
      (Iv (IntKind.i64.wrap (x + (1 : Int))) y_2 ∧ m (IntKind.i64.wrap (x + (1 : Int))) y_2 < m x y))
    (R g y)
theorem ok175 {g edgesV} {R : Int → List (List Int) → Prop} (T : T175 g edgesV R) : Ok175 g edgesV R := by
  intro h gA gL gC H
  have Y : Sy h [] h _ := Sy.startM H rfl
  obtain rfl := Y.lenV 0 rfl
  apply calls175
  unfold S175
  unfold T175 at T
  intro hv
  have Y : Sy _ _ hv [_, _] := Y.junk _
  clear_value hv
  have Y0 := Y
  have F : Fr [] hv hv := Fr.refl _ _
  obtain ⟨q, q_3, T⟩ := T
  refine ⟨q, Int.le_refl _, by omega, by omega, ?_⟩
  intro hv2
  have Y : Sy _ _ hv2 [_, _, _] := Y.mkR (ty := 40) eI 3 (Int.toNat g) (Int.toNat g) (Nat.le_refl _) (by simp [maxLen]; omega)
  have F : Fr _ _ hv2 := F.pushr _
  have fshv2 := F.size
  clear_value hv2
  refine ⟨F, ?_⟩
  intro hv3
  have Y : Sy _ _ hv3 [_, _, _, _] := Y.newO _
  have F : Fr _ _ hv3 := F.pushr _
  have fshv3 := F.size
  clear_value hv3
  refine ⟨F, ?_⟩
  obtain ⟨Iv, m, T0, T1⟩ := T
  obtain ⟨B, hB, YB⟩ := Y.cut [3, 2] [0, 1] rfl
  obtain ⟨F, hF⟩ := Y.fnO (k := 3) [2] rfl
  obtain ⟨JJ, hJJ⟩ : ∃ JJ : Nat → List Value → Heap → Prop, JJ = (fun k lz h' => ∃ (x : Int) (cA : Option Addr) (cL cC : Nat) (yH : List RowH) (y : List (List Int)), lz = [.int .i64 x] ∧ Sy h [] h' ([F [.slice cA cL cC], Ck.rows eI 40 3 cA cL cC yH y] ++ B) ∧ Iv x y ∧ m x y = k) := ⟨_, rfl⟩
  refine ⟨fun lz h' => ∃ k, JJ k lz h', Lm JJ, ?_, ?_⟩
  · subst hJJ hB hF
    exact ⟨_, _, _, _, _, _, _, rfl, YB, T0, rfl⟩
  · clear YB T0 Y
    intro x hv4 hI
    obtain ⟨k, hI, hm⟩ := loopIn hI
    subst hJJ hB hF
    obtain ⟨x, cA, cL, cC, yH, y, e, Y, T, rfl⟩ := hI
    cases e
    obtain rfl := Y.lenR 1 rfl
    replace T := T1 x y T
    have Y : Sy _ _ _ [_, _, _, _] := Y
    refine cnd_imp T (fun T => ?_) (fun T => ?_)
    · obtain ⟨q_4, q_5, T⟩ := T
      obtain ⟨b_2, o_2, hb, hr, g_2, hx⟩ := Y.atV 2 rfl q_4 q_5
      refine ⟨b_2, o_2, hb, q_4, q_5, ?_⟩
      replace T := T g_2 hx
      refine ⟨_, Y.cellV 2 rfl hb (t := 0) hx rfl, ?_⟩
      refine ⟨_, Y.cellV 2 rfl hb (t := 1) hx rfl, ?_⟩
      intro hv5
      have Y : Sy _ _ hv5 [_, _, _, _, _] := Y.junk _
      clear_value hv5
      intro hv6
      have Y : Sy _ _ hv6 [_, _, _, _, _] := ((Y.stJ 4 rfl _ _).stJ 4 rfl _ _)
      clear_value hv6
      obtain ⟨Iv2, m2, T0, T1⟩ := T
      obtain ⟨B_2, hB_2, YB⟩ := Y.cut [0, 1] [2, 3, 4] rfl
      obtain ⟨F_2, hF_2⟩ := Y.fnO (k := 0) [2] rfl
      obtain ⟨JJ_2, hJJ_2⟩ : ∃ JJ_2 : Nat → List Value → Heap → Prop, JJ_2 = (fun k_2 lz h' => ∃ (x4 : Int) (cA_2 : Option Addr) (cL_2 cC_2 : Nat) (y_2H : List RowH) (y_2 : List (List Int)), lz = [.int .i64 x4] ∧ Sy h [] h' ([F_2 [.slice cA_2 cL_2 cC_2], Ck.rows eI 40 3 cA_2 cL_2 cC_2 y_2H y_2] ++ B_2) ∧ Iv2 x4 y_2 ∧ m2 x4 y_2 = k_2) := ⟨_, rfl⟩
      refine ⟨fun lz h' => ∃ k_2, JJ_2 k_2 lz h', Lm JJ_2, ?_, ?_⟩
      · subst hJJ_2 hB_2 hF_2
        exact ⟨_, _, _, _, _, _, _, rfl, YB, T0, rfl⟩
      · clear YB T0 Y
        intro x4 hv7 hI
        obtain ⟨k_2, hI, hm_2⟩ := loopIn hI
        subst hJJ_2 hB_2 hF_2
        obtain ⟨x4, cA_2, cL_2, cC_2, y_2H, y_2, e, Y, T, rfl⟩ := hI
        cases e
        obtain rfl := Y.lenR 1 rfl
        replace T := T1 x4 y_2 T
        have Y : Sy _ _ _ [_, _, _, _, _] := Y
        refine cnd_imp T (fun T => ?_) (fun T => ?_)
        · obtain ⟨q_6, q_7, x5, q_8, T⟩ := T
          refine ⟨q_6, q_7, x5, q_8, ?_⟩
          have Y0 := Y
          obtain ⟨Mx, hMx⟩ := Y.mt [] [1]
          refine ⟨Mx, ?_⟩
          subst hMx
          refine ⟨alln, ?_⟩
          have F : Fr _ hv7 hv7 := Y0.frM [] [1]
          refine ⟨(Y0.nMo 0 [] [1] rfl rfl (by simp [Ck.ob])), ?_⟩
          refine ⟨_, _, _, Y0.cellO 0 rfl 2 rfl, ?_⟩
          refine ⟨(Y0.nMo 0 [] [1] rfl rfl (by simp [Ck.ob])), ?_⟩
          refine ⟨_, _, _, Y0.cellO 0 rfl 2 rfl, ?_⟩
          obtain ⟨q_9, q_10, T⟩ := T
          obtain ⟨b_3, hb_2, ho, x_2, hx_2, r, hr_2⟩ := Y0.atR 1 rfl q_9 q_10
          refine ⟨b_3, 0, hb_2, q_9, q_10, ?_⟩
          refine ⟨(Y0.nMr 1 [] [1] rfl rfl hb_2), ?_⟩
          replace T := T x_2 hx_2
          refine ⟨_, _, _, Y0.cellR 1 rfl hb_2 hr_2 hx_2, ?_⟩
          intro hv8
          have Y : Sy _ _ hv8 [_, _, _, _, _, _] := Y.junk _
          have F : Fr _ _ hv8 := F.pushr _
          have fshv8 := F.size
          clear_value hv8
          refine ⟨F, ?_⟩
          have Y : Sy _ _ _ [_, _, _, _, _, _, _] := Y.takeR 1 rfl hr_2 hx_2
          obtain ⟨q_11, T⟩ := T
          refine ⟨_, Y.ownS 6 rfl, (allc (Y.nJ 6 5 rfl rfl rfl) alln), by first | exact appB q_11 (by decide) | omega, by first | exact appM q_11 | (simp [maxLen]; omega), ?_⟩
          intro sA sC hv9 ow fA gA gB
          have Y : Sy _ _ hv9 [_, _, _, _, _, _, _] := Y.appS 6 rfl ([(IntKind.i64.wrap ((IntKind.i64.wrap ((2 : Int) * x)) + x4))] : List Int) ow fA gA rfl rfl
          have ns := F.appIn (Y0.inMr 1 [] [1] rfl rfl hr_2) gA fshv8
          have F : Fr _ _ hv9 := F.comp fA (Y0.inMr 1 [] [1] rfl rfl hr_2)
          have fshv9 := F.size
          refine ⟨F, ?_⟩
          obtain ⟨q_12, q_13, T⟩ := T
          obtain ⟨b_4, hb_3, ho_2, x_3, hx_3, r_2, hr_3⟩ := Y.atR 1 rfl q_12 q_13
          refine ⟨b_4, 0, hb_3, q_12, q_13, ?_⟩
          refine ⟨(Y.neJ 1 5 rfl rfl rfl (memR hb_3)), (Y.cellRX 1 rfl hb_3 (by omega)), Y.freeR 1 rfl hb_3 _, ?_⟩
          intro hv10
          have Y : Sy _ _ hv10 [_, _, _, _, _, _, _] := Y.putX 1 6 rfl rfl hb_3 rfl (by omega)
          clear_value hv10
          exact loopBack hm_2 ⟨_, _, _, _, _, _, rfl, Y.pick [0, 1, 2, 3, 4] rfl, T.1, rfl⟩ T.2
        · exact loopBack hm ⟨_, _, _, _, _, _, rfl, Y.pick [0, 1, 2, 3] rfl, T.1, rfl⟩ T.2
    · exact ⟨_, _, _, _, _, _, _, Y.pick [0, 1] rfl, rfl, T⟩
/-- tracery/walk.filled -/
def S178 (n : Int) (x : Int) (h : Heap) (R : Value → Heap → Prop) : Prop :=
  0 ≤ n ∧ n ≤ n ∧ ((8 : Nat) : Int) * n ≤ 281474976710656 ∧ n ≤ 9223372036854775807 ∧ let hv : Heap := h.push (.cells (madeCells (List.toArray [.int .i64 0]) (Int.toNat n * 1)) 3)
  ∃ (Iv : List Value → Heap → Prop) (m : List Value → Heap → Nat), Iv [.int .i64 0] hv ∧ -- loop 0: ['11']
  ∀ x2 : Int, ∀ hv2, Iv [.int .i64 x2] hv2 →
  cnd (decide (x2 < (((Int.toNat n) : Nat) : Int)))
    (∃ b o, (some (⟨h.size, 0, none⟩ : Addr)) = some ⟨b, o, none⟩ ∧ 0 ≤ x2 ∧ x2 < ((Int.toNat n) : Nat) ∧ (∃ u, hcell hv2 b (o + (Int.toNat x2) * 1) = some u) ∧ hfree hv2 b (o + (Int.toNat x2) * 1) = true ∧ let hv3 : Heap := hset hv2 b (o + (Int.toNat x2) * 1) (.int .i64 x)
    Iv [.int .i64 (IntKind.i64.wrap (x2 + (1 : Int)))] hv3 ∧ m [.int .i64 (IntKind.i64.wrap (x2 + (1 : Int)))] hv3 < m [.int .i64 x2] hv2)
    (R (.slice (some (⟨h.size, 0, none⟩ : Addr)) (Int.toNat n) (Int.toNat n)) hv2)
theorem calls178 {h : Heap} {R : Value → Heap → Prop} (n : Int) (x : Int) (H : S178 n x h R) : CallsH Try.prog 178 #[.int .i64 n, .int .i64 x] h R := by
  have e : S178 n x h R = FX (envX [] 20) { loops := [(0, ⟨[1, 5, 10], [11], [], []⟩)], joins := [], blocks := [], draws := [] } Try.f178 (Try.f178.body.getD .skip) [.int .i64 n, .int .i64 x] h R := by kernel_rfl
  exact calls_of_FX (envX_ok _ _) Try.func178 (by kernel_rfl) (by kernel_rfl) (by kernel_rfl) (e ▸ H)
/-- tracery/walk.filled -/
def Ok178 (n : Int) (x : Int) (R : List Int → Prop) : Prop :=
  ∀ (h : Heap), Hp h [] → CallsH Try.prog 178 #[.int .i64 n, .int .i64 x] h fun v h' => ∃ (rVA : Option Addr) (rVL rVC : Nat) (rV : List Int), Sy h [] h' [Ck.sl eI 3 rVA rVL rVC rV] ∧ v = .slice rVA rVL rVC ∧ R rV
theorem Ok178.mono {n x} {R R' : List Int → Prop} (H : Ok178 n x R) (kz : ∀ rV, R rV → R' rV) : Ok178 n x R' :=
  fun h  hp => (H h  hp).mono fun _ _ ⟨rVA, rVL, rVC, rV, P, e, q⟩ => ⟨rVA, rVL, rVC, rV, P, e, kz _ q⟩
def T178 (n : Int) (x : Int) (R : List Int → Prop) : Prop :=
  0 ≤ n ∧ n ≤ 1000000000000 ∧ ∃ (Iv : Int → List Int → Prop) (m : Int → List Int → Nat), Iv 0 (List.replicate (Int.toNat n) (0 : Int)) ∧
  ∀ x2 : Int, ∀ x_2 : List Int, Iv x2 x_2 →
  cnd (decide (x2 < (((Int.toNat n) : Nat) : Int)))
    (0 ≤ x2 ∧ x2 < (((Int.toNat n) : Nat) : Int) ∧ Iv (IntKind.i64.wrap (x2 + (1 : Int))) (x_2.set (Int.toNat x2) x) ∧ m (IntKind.i64.wrap (x2 + (1 : Int))) (x_2.set (Int.toNat x2) x) < m x2 x_2)
    (R x_2)
theorem ok178 {n x} {R : List Int → Prop} (T : T178 n x R) : Ok178 n x R := by
  intro h  H
  have Y : Sy h [] h _ := Sy.startM H rfl
  apply calls178
  unfold S178
  unfold T178 at T
  obtain ⟨q, q_3, T⟩ := T
  refine ⟨q, Int.le_refl _, by omega, by omega, ?_⟩
  intro hv
  have Y : Sy _ _ hv [_] := Y.mkS (E := eI) (ty := 3) (0 : Int) (Int.toNat n) (Int.toNat n) (Nat.le_refl _) (by simp [maxLen]; omega)
  clear_value hv
  obtain ⟨Iv, m, T0, T1⟩ := T
  obtain ⟨B, hB, YB⟩ := Y.cut [0] [] rfl
  obtain ⟨F, hF⟩ := Y.fnS (k := 0) rfl
  obtain ⟨JJ, hJJ⟩ : ∃ JJ : Nat → List Value → Heap → Prop, JJ = (fun k lz h' => ∃ (x2 : Int) (x_2 : List Int), lz = [.int .i64 x2] ∧ Sy h [] h' ([F x_2] ++ B) ∧ Iv x2 x_2 ∧ m x2 x_2 = k) := ⟨_, rfl⟩
  refine ⟨fun lz h' => ∃ k, JJ k lz h', Lm JJ, ?_, ?_⟩
  · subst hJJ hB hF
    exact ⟨_, _, _, rfl, YB, T0, rfl⟩
  · clear YB T0 Y
    intro x2 hv2 hI
    obtain ⟨k, hI, hm⟩ := loopIn hI
    subst hJJ hB hF
    obtain ⟨x2, x_2, e, Y, T, rfl⟩ := hI
    cases e
    replace T := T1 x2 x_2 T
    have Y : Sy _ _ _ [_] := Y
    refine cnd_imp T (fun T => ?_) (fun T => ?_)
    · obtain ⟨q_4, q_5, T⟩ := T
      obtain ⟨b_2, hb, ho, x_3, hx⟩ := Y.atS 0 rfl q_4 q_5
      refine ⟨b_2, 0, hb, q_4, q_5, ?_⟩
      refine ⟨Y.cellEx 0 rfl hb (t := 0) (by omega) (by decide), Y.freeS 0 rfl hb _, ?_⟩
      intro hv3
      have Y : Sy _ _ hv3 [_] := Y.st1 0 rfl hb x (by omega) rfl
      clear_value hv3
      exact loopBack hm ⟨_, _, rfl, Y.pick [0] rfl, T.1, rfl⟩ T.2
    · exact ⟨_, _, _, _, Y.pick [0] rfl, rfl, T⟩
/-- tracery/walk.tour -/
def S177 (n : Int) (s : Int) (h : Heap) (R : Value → Heap → Prop) : Prop :=
  let hv : Heap := h.push (.cells #[.slice none 0 0, .slice none 0 0, .slice none 0 0, .slice none 0 0] 113)
  let hv2 : Heap := hv.push (.cells #[.int .i64 s] 3)
  callX Try.prog 178 #[.int .i64 n, .int .i64 (-1)] hv2 [h.size] fun v hv3 =>
  ∃ (rA : Option Addr) (rL rC : Nat), v = .slice rA rL rC ∧
  callX Try.prog 178 #[.int .i64 n, .int .i64 (-1)] hv3 [h.size] fun v2 hv4 =>
  ∃ (rA2 : Option Addr) (rL2 rC2 : Nat), v2 = .slice rA2 rL2 rC2 ∧
  let hv5 : Heap := hv4.push (.cells #[.slice none 0 0, .slice none 0 0, .slice none 0 0, .slice none 0 0] 113)
  let hv6 : Heap := hset (hset (hset (hset hv5 hv4.size 0 (.slice (some (⟨hv.size, 0, none⟩ : Addr)) 1 1)) hv4.size (0 + 1) (.slice rA rL rC)) hv4.size ((0 + 1) + 1) (.slice rA2 rL2 rC2)) hv4.size (((0 + 1) + 1) + 1) (.slice none 0 0)
  ∃ b o, rA2 = some ⟨b, o, none⟩ ∧ 0 ≤ s ∧ s < (rL2 : Nat) ∧ b ≠ hv4.size ∧ b ≠ h.size ∧ (∃ u, hcell hv6 b (o + (Int.toNat s) * 1) = some u) ∧ hfree hv6 b (o + (Int.toNat s) * 1) = true ∧ let hv7 : Heap := hset hv6 b (o + (Int.toNat s) * 1) (.int .i64 0)
  let hv8 : Heap := hset (hset (hset (hset hv7 h.size 0 (.slice (some (⟨hv.size, 0, none⟩ : Addr)) 1 1)) h.size (0 + 1) (.slice rA rL rC)) h.size ((0 + 1) + 1) (.slice rA2 rL2 rC2)) h.size (((0 + 1) + 1) + 1) (.slice none 0 0)
  R (.agg #[.slice (some (⟨hv.size, 0, none⟩ : Addr)) 1 1, .slice rA rL rC, .slice rA2 rL2 rC2, .slice none 0 0]) hv8
theorem calls177 {h : Heap} {R : Value → Heap → Prop} (n : Int) (s : Int) (H : S177 n s h R) : CallsH Try.prog 177 #[.int .i64 n, .int .i64 s] h R := by
  have e : S177 n s h R = FX (envX [4, 5] 18) { loops := [], joins := [], blocks := [], draws := [] } Try.f177 (Try.f177.body.getD .skip) [.int .i64 n, .int .i64 s] h R := by kernel_rfl
  exact calls_of_FX (envX_ok _ _) Try.func177 (by kernel_rfl) (by kernel_rfl) (by kernel_rfl) (e ▸ H)
/-- tracery/walk.tour -/
def Ok177 (n : Int) (s : Int) (R : List Int → List Int → List Int → List Int → Prop) : Prop :=
  ∀ (h : Heap), Hp h [] → CallsH Try.prog 177 #[.int .i64 n, .int .i64 s] h fun v h' => ∃ (orderVA : Option Addr) (orderVL orderVC : Nat) (orderV : List Int) (byVA : Option Addr) (byVL byVC : Nat) (byV : List Int) (farVA : Option Addr) (farVL farVC : Nat) (farV : List Int) (lowVA : Option Addr) (lowVL lowVC : Nat) (lowV : List Int), Sy h [] h' [Ck.sl eI 3 orderVA orderVL orderVC orderV, Ck.sl eI 3 byVA byVL byVC byV, Ck.sl eI 3 farVA farVL farVC farV, Ck.sl eI 3 lowVA lowVL lowVC lowV] ∧ v = .agg #[.slice orderVA orderVL orderVC, .slice byVA byVL byVC, .slice farVA farVL farVC, .slice lowVA lowVL lowVC] ∧ R orderV byV farV lowV
theorem Ok177.mono {n s} {R R' : List Int → List Int → List Int → List Int → Prop} (H : Ok177 n s R) (kz : ∀ orderV byV farV lowV, R orderV byV farV lowV → R' orderV byV farV lowV) : Ok177 n s R' :=
  fun h  hp => (H h  hp).mono fun _ _ ⟨orderVA, orderVL, orderVC, orderV, byVA, byVL, byVC, byV, farVA, farVL, farVC, farV, lowVA, lowVL, lowVC, lowV, P, e, q⟩ => ⟨orderVA, orderVL, orderVC, orderV, byVA, byVL, byVC, byV, farVA, farVL, farVC, farV, lowVA, lowVL, lowVC, lowV, P, e, kz _ _ _ _ q⟩
def T177 (n : Int) (s : Int) (R : List Int → List Int → List Int → List Int → Prop) : Prop :=
  Ok178 n (-1) (fun r =>
  Ok178 n (-1) (fun r_2 =>
  0 ≤ s ∧ s < ((r_2.length : Nat) : Int) ∧ R ([s] : List Int) r (r_2.set (Int.toNat s) 0) ([] : List Int)))
theorem ok177 {n s} {R : List Int → List Int → List Int → List Int → Prop} (T : T177 n s R) : Ok177 n s R := by
  intro h  H
  have Y : Sy h [] h _ := Sy.startM H rfl
  apply calls177
  unfold S177
  unfold T177 at T
  intro hv
  have Y : Sy _ _ hv [_] := Y.junk _
  clear_value hv
  intro hv2
  have Y : Sy _ _ hv2 [_, _] := Y.litS (E := eI) (ty := 3) ([s] : List Int) rfl (by simp [maxLen])
  clear_value hv2
  refine callX_sy (T _ (Hp.nil _)) (fun _ _ ⟨_, _, _, _, p, _⟩ => p.fr) (allc (fun h => by cases h) alln) ?_
  rintro v hv3 ⟨rA, rL, rC, r, PP, rfl, T⟩
  have Y : Sy _ _ hv3 [_, _, _] := Y.callV PP ⟨rfl, trivial⟩
  clear PP
  obtain rfl := Y.lenS 2 rfl
  refine ⟨_, _, _, rfl, ?_⟩
  refine callX_sy (T _ (Hp.nil _)) (fun _ _ ⟨_, _, _, _, p, _⟩ => p.fr) (allc (fun h => by cases h) alln) ?_
  rintro v2 hv4 ⟨rA2, rL2, rC2, r_2, PP, rfl, T⟩
  have Y : Sy _ _ hv4 [_, _, _, _] := Y.callV PP ⟨rfl, trivial⟩
  clear PP
  obtain rfl := Y.lenS 3 rfl
  refine ⟨_, _, _, rfl, ?_⟩
  intro hv5
  have Y : Sy _ _ hv5 [_, _, _, _, _] := Y.junk _
  clear_value hv5
  intro hv6
  have Y : Sy _ _ hv6 [_, _, _, _, _] := ((((Y.stJ 4 rfl _ _).stJ 4 rfl _ _).stJ 4 rfl _ _).stJ 4 rfl _ _)
  clear_value hv6
  obtain ⟨q, q_2, T⟩ := T
  obtain ⟨b_2, hb, ho, r_3, hx⟩ := Y.atS 3 rfl q q_2
  refine ⟨b_2, 0, hb, q, q_2, ?_⟩
  refine ⟨(Y.neJ 3 4 rfl rfl rfl ho), (Y.neJ 3 0 rfl rfl rfl ho), Y.cellEx 3 rfl hb (t := 0) (by omega) (by decide), Y.freeS 3 rfl hb _, ?_⟩
  intro hv7
  have Y : Sy _ _ hv7 [_, _, _, _, _] := Y.st1 3 rfl hb 0 (by omega) rfl
  clear_value hv7
  intro hv8
  have Y : Sy _ _ hv8 [_, _, _, _, _] := ((((Y.stJ 0 rfl _ _).stJ 0 rfl _ _).stJ 0 rfl _ _).stJ 0 rfl _ _)
  clear_value hv8
  have Y : Sy _ _ _ [_, _, _, _, _, _] := Y.nilS eI 3
  exact ⟨_, _, _, _, _, _, _, _, _, _, _, _, _, _, _, _, Y.pick [1, 2, 3, 5] rfl, rfl, T⟩
/-- (*tracery/walk.lay).to -/
def S180 (lP : Option Addr) (hv : Int) (h : Heap) (R : Value → Heap → Prop) : Prop :=
  ∃ b o, lP = some ⟨b, o, none⟩ ∧ ∃ (xA : Option Addr) (xL xC : Nat), hcell h b (o + 1) = some (.slice xA xL xC) ∧ (2 : Int) ≠ 0 ∧ (2 : Int) ≠ 0 ∧ ∃ b2 o2, xA = some ⟨b2, o2, none⟩ ∧ 0 ≤ (IntKind.i64.wrap (Int.tdiv hv (2 : Int))) ∧ (IntKind.i64.wrap (Int.tdiv hv (2 : Int))) < (xL : Nat) ∧ 0 ≤ (IntKind.i64.wrap ((1 : Int) - (Int.tmod hv (2 : Int)))) ∧ (IntKind.i64.wrap ((1 : Int) - (Int.tmod hv (2 : Int)))) < ((2 : Nat) : Int) ∧ ∃ x : Int, hcell h b2 ((o2 + (Int.toNat (IntKind.i64.wrap (Int.tdiv hv (2 : Int)))) * 2) + (Int.toNat (IntKind.i64.wrap ((1 : Int) - (Int.tmod hv (2 : Int))))) * 1) = some (.int .i64 x) ∧ R (.int .i64 x) h
theorem calls180 {h : Heap} {R : Value → Heap → Prop} (lP : Option Addr) (hv : Int) (H : S180 lP hv h R) : CallsH Try.prog 180 #[.pointer lP, .int .i64 hv] h R := by
  have e : S180 lP hv h R = FX (envX [] 18) { loops := [], joins := [], blocks := [], draws := [] } Try.f180 (Try.f180.body.getD .skip) [.pointer lP, .int .i64 hv] h R := by kernel_rfl
  exact calls_of_FX (envX_ok _ _) Try.func180 (by kernel_rfl) (by kernel_rfl) (by kernel_rfl) (e ▸ H)
/-- (*tracery/walk.lay).to -/
def Ok180 (nV : Int) (edgesV : List (Int × Int)) (outV : List (List Int)) (hv : Int) (R : Int → Prop) : Prop :=
  ∀ (h : Heap) (lB lO : Nat) (edgesVA : Option Addr) (edgesVL edgesVC : Nat) (outVA : Option Addr) (outVL outVC : Nat) (outH : List RowH), Hp h [Ck.vob lB lO [.int .i64 nV, .slice edgesVA edgesVL edgesVC, .slice outVA outVL outVC], Ck.vw eP edgesVA edgesVL edgesVC edgesV, Ck.vrows eI outVA outVL outVC outH outV] → CallsH Try.prog 180 #[.pointer (some ⟨lB, lO, none⟩), .int .i64 hv] h fun v h' => ∃ (rV : Int), Sy h [] h' [] ∧ v = .int .i64 rV ∧ R rV
theorem Ok180.mono {nV edgesV outV hv} {R R' : Int → Prop} (H : Ok180 nV edgesV outV hv R) (kz : ∀ rV, R rV → R' rV) : Ok180 nV edgesV outV hv R' :=
  fun h lB lO edgesVA edgesVL edgesVC outVA outVL outVC outH hp => (H h lB lO edgesVA edgesVL edgesVC outVA outVL outVC outH hp).mono fun _ _ ⟨rV, P, e, q⟩ => ⟨rV, P, e, kz _ q⟩
def T180 (nV : Int) (edgesV : List (Int × Int)) (outV : List (List Int)) (hv : Int) (R : Int → Prop) : Prop :=
  (2 : Int) ≠ 0 ∧ (2 : Int) ≠ 0 ∧ 0 ≤ (IntKind.i64.wrap (Int.tdiv hv (2 : Int))) ∧ (IntKind.i64.wrap (Int.tdiv hv (2 : Int))) < ((edgesV.length : Nat) : Int) ∧ 0 ≤ (IntKind.i64.wrap ((1 : Int) - (Int.tmod hv (2 : Int)))) ∧ (IntKind.i64.wrap ((1 : Int) - (Int.tmod hv (2 : Int)))) < ((2 : Nat) : Int) ∧ ∀ x_2 : (Int × Int), edgesV[(Int.toNat (IntKind.i64.wrap (Int.tdiv hv (2 : Int))))]? = some x_2 → R (nth2 x_2 (IntKind.i64.wrap ((1 : Int) - (Int.tmod hv (2 : Int)))))
theorem ok180 {nV edgesV outV hv} {R : Int → Prop} (T : T180 nV edgesV outV hv R) : Ok180 nV edgesV outV hv R := by
  intro h lB lO edgesVA edgesVL edgesVC outVA outVL outVC outH H
  have Y : Sy h [] h _ := Sy.startM H rfl
  obtain rfl := Y.lenV 1 rfl
  obtain rfl := Y.lenW 2 rfl
  apply calls180
  unfold S180
  unfold T180 at T
  refine ⟨lB, lO, rfl, ?_⟩
  refine ⟨_, _, _, Y.cellW 0 rfl 1 rfl, ?_⟩
  obtain ⟨q_6, T⟩ := T
  refine ⟨q_6, ?_⟩
  obtain ⟨q_5, T⟩ := T
  refine ⟨q_5, ?_⟩
  obtain ⟨q, q_2, T⟩ := T
  obtain ⟨b_2, o_2, hb, hr, x_2, hx⟩ := Y.atV 1 rfl q q_2
  refine ⟨b_2, o_2, hb, q, q_2, ?_⟩
  obtain ⟨q_3, q_4, T⟩ := T
  refine ⟨q_3, q_4, ?_⟩
  replace T := T x_2 hx
  refine ⟨_, nth2_cell (Y.cellV 1 rfl hb (t := 0) hx rfl) (Y.cellV 1 rfl hb (t := 1) hx rfl) (by assumption) (by assumption), ?_⟩
  exact ⟨_, Y.pick [] rfl, rfl, T⟩
/-- (*tracery/walk.lay).find -/
def S181 (lP : Option Addr) (tP : Option Addr) (hv : Int) (far : Int) (h : Heap) (R : Value → Heap → Prop) : Prop :=
  callX Try.prog 180 #[.pointer lP, .int .i64 hv] h [] fun v hv2 =>
  ∃ r : Int, v = .int .i64 r ∧
  ∃ b o, tP = some ⟨b, o, none⟩ ∧ ∃ (xA : Option Addr) (xL xC : Nat), hcell hv2 b o = some (.slice xA xL xC) ∧ let hv3 : Heap := hv2.push (.cells #[.int .i64 r] 3)
  ∃ old, Ownd hv3 3 1 xA xL xC old ∧ (∀ b ∈ ([hv2.size] : List Nat), b ∉ blkOf xA) ∧ (xL + 1) * 8 ≤ 140737488355328 ∧ (xL + 1) ≤ maxLen ∧
  ∀ sA sC hv4, Ownd hv4 3 1 sA (xL + 1) sC (old ++ [.int .i64 r]) → Fr (blkOf xA) hv3 hv4 → ((sA = xA ∧ sC = xC) ∨ ∃ g, sA = some ⟨g, 0, none⟩ ∧ hv3.size ≤ g) → (xC < (xL + 1) → Fr [] hv3 hv4) →
  ∃ b2 o2, tP = some ⟨b2, o2, none⟩ ∧ b2 ≠ hv2.size ∧ (∃ u, hcell hv4 b2 o2 = some u) ∧ hfree hv4 b2 o2 = true ∧ let hv5 : Heap := hset hv4 b2 o2 (.slice sA (xL + 1) sC)
  ∃ Mv : List Nat, (∀ b ∈ ([hv2.size] : List Nat), b ∉ Mv) ∧
  ∃ b3 o3, tP = some ⟨b3, o3, none⟩ ∧ ∃ (xA2 : Option Addr) (xL2 xC2 : Nat), hcell hv5 b3 (o3 + 1) = some (.slice xA2 xL2 xC2) ∧ ∃ b4 o4, tP = some ⟨b4, o4, none⟩ ∧ ∃ (xA3 : Option Addr) (xL3 xC3 : Nat), hcell hv5 b4 (o4 + 2) = some (.slice xA3 xL3 xC3) ∧ ∃ b5 o5, xA2 = some ⟨b5, o5, none⟩ ∧ 0 ≤ r ∧ r < (xL2 : Nat) ∧ b5 ≠ hv2.size ∧ (∃ u, hcell hv5 b5 (o5 + (Int.toNat r) * 1) = some u) ∧ hfree hv5 b5 (o5 + (Int.toNat r) * 1) = true ∧ let hv6 : Heap := hset hv5 b5 (o5 + (Int.toNat r) * 1) (.int .i64 hv)
  Fr Mv hv5 hv6 ∧
  ∃ b6 o6, xA3 = some ⟨b6, o6, none⟩ ∧ 0 ≤ r ∧ r < (xL3 : Nat) ∧ b6 ≠ hv2.size ∧ (∃ u, hcell hv6 b6 (o6 + (Int.toNat r) * 1) = some u) ∧ hfree hv6 b6 (o6 + (Int.toNat r) * 1) = true ∧ let hv7 : Heap := hset hv6 b6 (o6 + (Int.toNat r) * 1) (.int .i64 far)
  Fr Mv hv5 hv7 ∧
  R (.tuple #[]) hv7
theorem calls181 {h : Heap} {R : Value → Heap → Prop} (lP : Option Addr) (tP : Option Addr) (hv : Int) (far : Int) (H : S181 lP tP hv far h R) : CallsH Try.prog 181 #[.pointer lP, .pointer tP, .int .i64 hv, .int .i64 far] h R := by
  have e : S181 lP tP hv far h R = FX (envX [18] 36) { loops := [], joins := [], blocks := [], draws := [(2, ⟨16, true⟩)] } Try.f181 (Try.f181.body.getD .skip) [.pointer lP, .pointer tP, .int .i64 hv, .int .i64 far] h R := by kernel_rfl
  exact calls_of_FX (envX_ok _ _) Try.func181 (by kernel_rfl) (by kernel_rfl) (by kernel_rfl) (e ▸ H)
/-- (*tracery/walk.lay).find -/
def Ok181 (nV : Int) (edgesV : List (Int × Int)) (outV : List (List Int)) (orderV : List Int) (byV : List Int) (farV : List Int) (lowV : List Int) (hv : Int) (far : Int) (R : List Int → List Int → List Int → List Int → Prop) : Prop :=
  ∀ (h : Heap) (lB lO : Nat) (edgesVA : Option Addr) (edgesVL edgesVC : Nat) (outVA : Option Addr) (outVL outVC : Nat) (outH : List RowH) (tB : Nat) (orderVA : Option Addr) (orderVL orderVC : Nat) (byVA : Option Addr) (byVL byVC : Nat) (farVA : Option Addr) (farVL farVC : Nat) (lowVA : Option Addr) (lowVL lowVC : Nat), Hp h [Ck.vob lB lO [.int .i64 nV, .slice edgesVA edgesVL edgesVC, .slice outVA outVL outVC], Ck.vw eP edgesVA edgesVL edgesVC edgesV, Ck.vrows eI outVA outVL outVC outH outV, Ck.ob tB 113 [.slice orderVA orderVL orderVC, .slice byVA byVL byVC, .slice farVA farVL farVC, .slice lowVA lowVL lowVC], Ck.sl eI 3 orderVA orderVL orderVC orderV, Ck.sl eI 3 byVA byVL byVC byV, Ck.sl eI 3 farVA farVL farVC farV, Ck.sl eI 3 lowVA lowVL lowVC lowV] → CallsH Try.prog 181 #[.pointer (some ⟨lB, lO, none⟩), .pointer (some ⟨tB, 0, none⟩), .int .i64 hv, .int .i64 far] h fun v h' => ∃ (orderVA2 : Option Addr) (orderVL2 orderVC2 : Nat) (orderV1 : List Int) (byVA2 : Option Addr) (byVL2 byVC2 : Nat) (byV1 : List Int) (farVA2 : Option Addr) (farVL2 farVC2 : Nat) (farV1 : List Int) (lowVA2 : Option Addr) (lowVL2 lowVC2 : Nat) (lowV1 : List Int), Sy h (owns [Ck.ob tB 113 [.slice orderVA orderVL orderVC, .slice byVA byVL byVC, .slice farVA farVL farVC, .slice lowVA lowVL lowVC], Ck.sl eI 3 orderVA orderVL orderVC orderV, Ck.sl eI 3 byVA byVL byVC byV, Ck.sl eI 3 farVA farVL farVC farV, Ck.sl eI 3 lowVA lowVL lowVC lowV]) h' [Ck.ob tB 113 [.slice orderVA2 orderVL2 orderVC2, .slice byVA2 byVL2 byVC2, .slice farVA2 farVL2 farVC2, .slice lowVA2 lowVL2 lowVC2], Ck.sl eI 3 orderVA2 orderVL2 orderVC2 orderV1, Ck.sl eI 3 byVA2 byVL2 byVC2 byV1, Ck.sl eI 3 farVA2 farVL2 farVC2 farV1, Ck.sl eI 3 lowVA2 lowVL2 lowVC2 lowV1] ∧ v = .tuple #[] ∧ R orderV1 byV1 farV1 lowV1
theorem Ok181.mono {nV edgesV outV orderV byV farV lowV hv far} {R R' : List Int → List Int → List Int → List Int → Prop} (H : Ok181 nV edgesV outV orderV byV farV lowV hv far R) (kz : ∀ orderV1 byV1 farV1 lowV1, R orderV1 byV1 farV1 lowV1 → R' orderV1 byV1 farV1 lowV1) : Ok181 nV edgesV outV orderV byV farV lowV hv far R' :=
  fun h lB lO edgesVA edgesVL edgesVC outVA outVL outVC outH tB orderVA orderVL orderVC byVA byVL byVC farVA farVL farVC lowVA lowVL lowVC hp => (H h lB lO edgesVA edgesVL edgesVC outVA outVL outVC outH tB orderVA orderVL orderVC byVA byVL byVC farVA farVL farVC lowVA lowVL lowVC hp).mono fun _ _ ⟨orderVA2, orderVL2, orderVC2, orderV1, byVA2, byVL2, byVC2, byV1, farVA2, farVL2, farVC2, farV1, lowVA2, lowVL2, lowVC2, lowV1, P, e, q⟩ => ⟨orderVA2, orderVL2, orderVC2, orderV1, byVA2, byVL2, byVC2, byV1, farVA2, farVL2, farVC2, farV1, lowVA2, lowVL2, lowVC2, lowV1, P, e, kz _ _ _ _ q⟩
def T181 (nV : Int) (edgesV : List (Int × Int)) (outV : List (List Int)) (orderV : List Int) (byV : List Int) (farV : List Int) (lowV : List Int) (hv : Int) (far : Int) (R : List Int → List Int → List Int → List Int → Prop) : Prop :=
  Ok180 nV edgesV outV hv (fun r =>
  (orderV.length + 1) < 1000000000000 ∧ 0 ≤ r ∧ r < ((byV.length : Nat) : Int) ∧ 0 ≤ r ∧ r < ((farV.length : Nat) : Int) ∧ R (orderV ++ [r]) (byV.set (Int.toNat r) hv) (farV.set (Int.toNat r) far) lowV)
theorem ok181 {nV edgesV outV orderV byV farV lowV hv far} {R : List Int → List Int → List Int → List Int → Prop} (T : T181 nV edgesV outV orderV byV farV lowV hv far R) : Ok181 nV edgesV outV orderV byV farV lowV hv far R := by
  intro h lB lO edgesVA edgesVL edgesVC outVA outVL outVC outH tB orderVA orderVL orderVC byVA byVL byVC farVA farVL farVC lowVA lowVL lowVC H
  have Y : Sy h (owns [Ck.ob tB 113 [.slice orderVA orderVL orderVC, .slice byVA byVL byVC, .slice farVA farVL farVC, .slice lowVA lowVL lowVC], Ck.sl eI 3 orderVA orderVL orderVC orderV, Ck.sl eI 3 byVA byVL byVC byV, Ck.sl eI 3 farVA farVL farVC farV, Ck.sl eI 3 lowVA lowVL lowVC lowV]) h _ := Sy.startM H rfl
  obtain rfl := Y.lenV 1 rfl
  obtain rfl := Y.lenW 2 rfl
  obtain rfl := Y.lenS 4 rfl
  obtain rfl := Y.lenS 5 rfl
  obtain rfl := Y.lenS 6 rfl
  obtain rfl := Y.lenS 7 rfl
  apply calls181
  unfold S181
  unfold T181 at T
  refine callX_sy (T _ _ _ _ _ _ _ _ _ _ (Y.pick [0, 1, 2] rfl).hp) (fun _ _ ⟨_, p, _⟩ => p.fr) alln ?_
  rintro v hv2 ⟨r, PP, rfl, T⟩
  have Y : Sy _ _ hv2 [_, _, _, _, _, _, _, _] := Y.gr PP.fr
  clear PP
  refine ⟨r, rfl, ?_⟩
  refine ⟨tB, 0, rfl, ?_⟩
  refine ⟨_, _, _, Y.cellO 3 rfl 0 rfl, ?_⟩
  intro hv3
  have Y : Sy _ _ hv3 [_, _, _, _, _, _, _, _, _] := Y.junk _
  clear_value hv3
  obtain ⟨q, T⟩ := T
  refine ⟨_, Y.ownS 4 rfl, (allc (Y.nJ 4 8 rfl rfl rfl) alln), by first | exact appB q (by decide) | omega, by first | exact appM q | (simp [maxLen]; omega), ?_⟩
  intro sA sC hv4 ow fA gA gB
  have Y : Sy _ _ hv4 [_, _, _, _, _, _, _, _, _] := Y.appS 4 rfl ([r] : List Int) ow fA gA rfl rfl
  refine ⟨tB, 0, rfl, ?_⟩
  refine ⟨(Y.neJ 3 8 rfl rfl rfl (by simp [Ck.ob])), ⟨_, Y.cellO 3 rfl 0 rfl⟩, Y.freeO 3 rfl _, ?_⟩
  intro hv5
  have Y : Sy _ _ hv5 [_, _, _, _, _, _, _, _, _] := (Y.stO 3 rfl 0 _)
  clear_value hv5
  have Y0 := Y
  obtain ⟨Mx, hMx⟩ := Y.mt [5, 6] []
  refine ⟨Mx, ?_⟩
  subst hMx
  refine ⟨(allc (Y0.nMJ 8 [5, 6] [] rfl rfl) alln), ?_⟩
  have F : Fr _ hv5 hv5 := Y0.frM [5, 6] []
  refine ⟨tB, 0, rfl, ?_⟩
  refine ⟨_, _, _, Y0.cellO 3 rfl 1 rfl, ?_⟩
  refine ⟨tB, 0, rfl, ?_⟩
  refine ⟨_, _, _, Y0.cellO 3 rfl 2 rfl, ?_⟩
  obtain ⟨q_2, q_3, T⟩ := T
  obtain ⟨b_2, hb, ho, x, hx⟩ := Y0.atS 5 rfl q_2 q_3
  refine ⟨b_2, 0, hb, q_2, q_3, ?_⟩
  refine ⟨(Y.neJ 5 8 rfl rfl rfl ho), Y.cellEx 5 rfl hb (t := 0) (by omega) (by decide), Y.freeS 5 rfl hb _, ?_⟩
  intro hv6
  have Y : Sy _ _ hv6 [_, _, _, _, _, _, _, _, _] := Y.st1 5 rfl hb hv (by omega) rfl
  have F : Fr _ _ hv6 := (F.hsetM (Y0.inMo 5 [5, 6] [] rfl rfl _ ho))
  have fshv6 := F.size
  clear_value hv6
  refine ⟨F, ?_⟩
  obtain ⟨q_4, q_5, T⟩ := T
  obtain ⟨b_3, hb_2, ho_2, x_2, hx_2⟩ := Y0.atS 6 rfl q_4 q_5
  refine ⟨b_3, 0, hb_2, q_4, q_5, ?_⟩
  refine ⟨(Y.neJ 6 8 rfl rfl rfl ho_2), Y.cellEx 6 rfl hb_2 (t := 0) (by omega) (by decide), Y.freeS 6 rfl hb_2 _, ?_⟩
  intro hv7
  have Y : Sy _ _ hv7 [_, _, _, _, _, _, _, _, _] := Y.st1 6 rfl hb_2 far (by omega) rfl
  have F : Fr _ _ hv7 := (F.hsetM (Y0.inMo 6 [5, 6] [] rfl rfl _ ho_2))
  have fshv7 := F.size
  clear_value hv7
  refine ⟨F, ?_⟩
  exact ⟨_, _, _, _, _, _, _, _, _, _, _, _, _, _, _, _, Y.pick [3, 4, 5, 6, 7] rfl, rfl, T⟩
/-- (*tracery/walk.lay).breadth -/
def S176 (lP : Option Addr) (s : Int) (h : Heap) (R : Value → Heap → Prop) : Prop :=
  let hv : Heap := h.push (.cells #[.slice none 0 0, .slice none 0 0, .slice none 0 0, .slice none 0 0] 113)
  ∃ b o, lP = some ⟨b, o, none⟩ ∧ ∃ x : Int, hcell hv b o = some (.int .i64 x) ∧ callX Try.prog 177 #[.int .i64 x, .int .i64 s] hv [h.size] fun v hv2 =>
  ∃ (rA : Option Addr) (rL rC : Nat), ∃ (rA2 : Option Addr) (rL2 rC2 : Nat), ∃ (rA3 : Option Addr) (rL3 rC3 : Nat), ∃ (rA4 : Option Addr) (rL4 rC4 : Nat), v = .agg #[.slice rA rL rC, .slice rA2 rL2 rC2, .slice rA3 rL3 rC3, .slice rA4 rL4 rC4] ∧
  let hv3 : Heap := hv2.push (.cells #[.slice none 0 0, .slice none 0 0, .slice none 0 0, .slice none 0 0] 113)
  hv2.size ≠ h.size ∧ (∃ u, hcell hv3 hv2.size 0 = some u) ∧ hfree hv3 hv2.size 0 = true ∧ (∃ u, hcell hv3 hv2.size (0 + 1) = some u) ∧ hfree hv3 hv2.size (0 + 1) = true ∧ (∃ u, hcell hv3 hv2.size ((0 + 1) + 1) = some u) ∧ hfree hv3 hv2.size ((0 + 1) + 1) = true ∧ (∃ u, hcell hv3 hv2.size (((0 + 1) + 1) + 1) = some u) ∧ hfree hv3 hv2.size (((0 + 1) + 1) + 1) = true ∧ let hv4 : Heap := hset (hset (hset (hset hv3 hv2.size 0 (.slice rA rL rC)) hv2.size (0 + 1) (.slice rA2 rL2 rC2)) hv2.size ((0 + 1) + 1) (.slice rA3 rL3 rC3)) hv2.size (((0 + 1) + 1) + 1) (.slice rA4 rL4 rC4)
  ∃ (Iv : List Value → Heap → Prop) (m : List Value → Heap → Nat), Iv [.int .i64 0] hv4 ∧ -- loop 0: ['i']
  ∀ i : Int, ∀ hv5, Iv [.int .i64 i] hv5 →
  ∃ (xA : Option Addr) (xL xC : Nat), hcell hv5 hv2.size 0 = some (.slice xA xL xC) ∧ cnd (decide (i < ((xL : Nat) : Int)))
    (∃ (xA2 : Option Addr) (xL2 xC2 : Nat), hcell hv5 hv2.size 0 = some (.slice xA2 xL2 xC2) ∧ ∃ b2 o2, xA2 = some ⟨b2, o2, none⟩ ∧ 0 ≤ i ∧ i < (xL2 : Nat) ∧ ∃ x2 : Int, hcell hv5 b2 (o2 + (Int.toNat i) * 1) = some (.int .i64 x2) ∧ ∃ b3 o3, lP = some ⟨b3, o3, none⟩ ∧ ∃ (xA3 : Option Addr) (xL3 xC3 : Nat), hcell hv5 b3 (o3 + 2) = some (.slice xA3 xL3 xC3) ∧ ∃ b4 o4, xA3 = some ⟨b4, o4, none⟩ ∧ 0 ≤ x2 ∧ x2 < (xL3 : Nat) ∧ ∃ (xA4 : Option Addr) (xL4 xC4 : Nat), hcell hv5 b4 (o4 + (Int.toNat x2) * 1) = some (.slice xA4 xL4 xC4) ∧ ∃ (Iv2 : List Value → Heap → Prop) (m2 : List Value → Heap → Nat), Iv2 [.int .i64 0] hv5 ∧ -- loop 2: ['37']
    ∀ x3 : Int, ∀ hv6, Iv2 [.int .i64 x3] hv6 →
    cnd (decide (x3 < ((xL4 : Nat) : Int)))
      (∃ b5 o5, xA4 = some ⟨b5, o5, none⟩ ∧ 0 ≤ x3 ∧ x3 < (xL4 : Nat) ∧ ∃ x4 : Int, hcell hv6 b5 (o5 + (Int.toNat x3) * 1) = some (.int .i64 x4) ∧ ∃ (xA5 : Option Addr) (xL5 xC5 : Nat), hcell hv6 hv2.size (0 + 2) = some (.slice xA5 xL5 xC5) ∧ callX Try.prog 180 #[.pointer lP, .int .i64 x4] hv6 [h.size] fun v2 hv7 =>
      ∃ r : Int, v2 = .int .i64 r ∧
      Fr [] hv6 hv7 ∧
      ∃ b6 o6, xA5 = some ⟨b6, o6, none⟩ ∧ 0 ≤ r ∧ r < (xL5 : Nat) ∧ ∃ x5 : Int, hcell hv7 b6 (o6 + (Int.toNat r) * 1) = some (.int .i64 x5) ∧ ∃ Jv : List Value → Heap → Prop, -- join 48 []
      ( cnd (decide (x5 < (0 : Int)))
         (∃ (xA6 : Option Addr) (xL6 xC6 : Nat), hcell hv7 hv2.size (0 + 2) = some (.slice xA6 xL6 xC6) ∧ ∃ b7 o7, xA6 = some ⟨b7, o7, none⟩ ∧ 0 ≤ x2 ∧ x2 < (xL6 : Nat) ∧ ∃ x6 : Int, hcell hv7 b7 (o7 + (Int.toNat x2) * 1) = some (.int .i64 x6) ∧ callX Try.prog 181 #[.pointer lP, .pointer (some (⟨hv2.size, 0, none⟩ : Addr)), .int .i64 x4, .int .i64 (IntKind.i64.wrap (x6 + (1 : Int)))] hv7 [h.size] fun v3 hv8 =>
         v3 = .tuple #[] ∧
         Jv [] hv8)
         (Jv [] hv7)) ∧
      ∀ hv9, Jv [] hv9 →
      Iv2 [.int .i64 (IntKind.i64.wrap (x3 + (1 : Int)))] hv9 ∧ m2 [.int .i64 (IntKind.i64.wrap (x3 + (1 : Int)))] hv9 < m2 [.int .i64 x3] hv6)
      (Iv [.int .i64 (IntKind.i64.wrap (i + (1 : Int)))] hv6 ∧ m [.int .i64 (IntKind.i64.wrap (i + (1 : Int)))] hv6 < m [.int .i64 i] hv5))
    (∃ (xA7 : Option Addr) (xL7 xC7 : Nat), hcell hv5 hv2.size 0 = some (.slice xA7 xL7 xC7) ∧ ∃ (xA8 : Option Addr) (xL8 xC8 : Nat), hcell hv5 hv2.size (0 + 1) = some (.slice xA8 xL8 xC8) ∧ ∃ (xA9 : Option Addr) (xL9 xC9 : Nat), hcell hv5 hv2.size ((0 + 1) + 1) = some (.slice xA9 xL9 xC9) ∧ ∃ (xA10 : Option Addr) (xL10 xC10 : Nat), hcell hv5 hv2.size (((0 + 1) + 1) + 1) = some (.slice xA10 xL10 xC10) ∧ let hv10 : Heap := hset (hset (hset (hset hv5 h.size 0 (.slice xA7 xL7 xC7)) h.size (0 + 1) (.slice xA8 xL8 xC8)) h.size ((0 + 1) + 1) (.slice xA9 xL9 xC9)) h.size (((0 + 1) + 1) + 1) (.slice xA10 xL10 xC10)
    R (.agg #[.slice xA7 xL7 xC7, .slice xA8 xL8 xC8, .slice xA9 xL9 xC9, .slice xA10 xL10 xC10]) hv10)
theorem calls176 {h : Heap} {R : Value → Heap → Prop} (lP : Option Addr) (s : Int) (H : S176 lP s h R) : CallsH Try.prog 176 #[.pointer lP, .int .i64 s] h R := by
  have e : S176 lP s h R = FX (envX [4] 60) { loops := [(0, ⟨[0, 4, 5], [6], [4], []⟩), (2, ⟨[0, 4, 5, 6, 7, 35, 36], [37], [4], []⟩)], joins := [(48, ⟨[0, 4, 5, 6, 7, 35, 36, 37], [], [4], []⟩)], blocks := [], draws := [(9, ⟨5, false⟩)] } Try.f176 (Try.f176.body.getD .skip) [.pointer lP, .int .i64 s] h R := by kernel_rfl
  exact calls_of_FX (envX_ok _ _) Try.func176 (by kernel_rfl) (by kernel_rfl) (by kernel_rfl) (e ▸ H)
/-- (*tracery/walk.lay).breadth -/
def Ok176 (nV : Int) (edgesV : List (Int × Int)) (outV : List (List Int)) (s : Int) (R : List Int → List Int → List Int → List Int → Prop) : Prop :=
  ∀ (h : Heap) (lB lO : Nat) (edgesVA : Option Addr) (edgesVL edgesVC : Nat) (outVA : Option Addr) (outVL outVC : Nat) (outH : List RowH), Hp h [Ck.vob lB lO [.int .i64 nV, .slice edgesVA edgesVL edgesVC, .slice outVA outVL outVC], Ck.vw eP edgesVA edgesVL edgesVC edgesV, Ck.vrows eI outVA outVL outVC outH outV] → CallsH Try.prog 176 #[.pointer (some ⟨lB, lO, none⟩), .int .i64 s] h fun v h' => ∃ (orderVA : Option Addr) (orderVL orderVC : Nat) (orderV : List Int) (byVA : Option Addr) (byVL byVC : Nat) (byV : List Int) (farVA : Option Addr) (farVL farVC : Nat) (farV : List Int) (lowVA : Option Addr) (lowVL lowVC : Nat) (lowV : List Int), Sy h [] h' [Ck.sl eI 3 orderVA orderVL orderVC orderV, Ck.sl eI 3 byVA byVL byVC byV, Ck.sl eI 3 farVA farVL farVC farV, Ck.sl eI 3 lowVA lowVL lowVC lowV] ∧ v = .agg #[.slice orderVA orderVL orderVC, .slice byVA byVL byVC, .slice farVA farVL farVC, .slice lowVA lowVL lowVC] ∧ R orderV byV farV lowV
theorem Ok176.mono {nV edgesV outV s} {R R' : List Int → List Int → List Int → List Int → Prop} (H : Ok176 nV edgesV outV s R) (kz : ∀ orderV byV farV lowV, R orderV byV farV lowV → R' orderV byV farV lowV) : Ok176 nV edgesV outV s R' :=
  fun h lB lO edgesVA edgesVL edgesVC outVA outVL outVC outH hp => (H h lB lO edgesVA edgesVL edgesVC outVA outVL outVC outH hp).mono fun _ _ ⟨orderVA, orderVL, orderVC, orderV, byVA, byVL, byVC, byV, farVA, farVL, farVC, farV, lowVA, lowVL, lowVC, lowV, P, e, q⟩ => ⟨orderVA, orderVL, orderVC, orderV, byVA, byVL, byVC, byV, farVA, farVL, farVC, farV, lowVA, lowVL, lowVC, lowV, P, e, kz _ _ _ _ q⟩
def T176 (nV : Int) (edgesV : List (Int × Int)) (outV : List (List Int)) (s : Int) (R : List Int → List Int → List Int → List Int → Prop) : Prop :=
  Ok177 nV s (fun r_2 r_3 r_4 r_5 =>
  ∃ (Iv : Int → List Int → List Int → List Int → List Int → Prop) (m : Int → List Int → List Int → List Int → List Int → Nat), Iv 0 r_2 r_3 r_4 r_5 ∧
  ∀ i : Int, ∀ y : List Int, ∀ y_2 : List Int, ∀ y_3 : List Int, ∀ y_4 : List Int, Iv i y y_2 y_3 y_4 →
  cnd (decide (i < ((y.length : Nat) : Int)))
    (0 ≤ i ∧ i < ((y.length : Nat) : Int) ∧ ∀ x_2 : Int, y[(Int.toNat i)]? = some x_2 → 0 ≤ x_2 ∧ x_2 < ((outV.length : Nat) : Int) ∧ ∀ x_3 : List Int, outV[(Int.toNat x_2)]? = some x_3 → ∃ (Iv2 : Int → List Int → List Int → List Int → List Int → Prop) (m2 : Int → List Int → List Int → List Int → List Int → Nat), Iv2 0 y y_2 y_3 y_4 ∧
    ∀ x3 : Int, ∀ y_5 : List Int, ∀ y_6 : List Int, ∀ y_7 : List Int, ∀ y_8 : List Int, Iv2 x3 y_5 y_6 y_7 y_8 →
    cnd (decide (x3 < ((x_3.length : Nat) : Int)))
      (0 ≤ x3 ∧ x3 < ((x_3.length : Nat) : Int) ∧ ∀ x_4 : Int, x_3[(Int.toNat x3)]? = some x_4 → Ok180 nV edgesV outV x_4 (fun r =>
      0 ≤ r ∧ r < ((y_7.length : Nat) : Int) ∧ ∀ x_5 : Int, y_7[(Int.toNat r)]? = some x_5 → ∃ Jv : List Int → List Int → List Int → List Int → Prop,
      ( cnd (decide (x_5 < (0 : Int)))
         (0 ≤ x_2 ∧ x_2 < ((y_7.length : Nat) : Int) ∧ ∀ x_6 : Int, y_7[(Int.toNat x_2)]? = some x_6 → Ok181 nV edgesV outV y_5 y_6 y_7 y_8 x_4 (IntKind.i64.wrap (x_6 + (1 : Int))) (fun orderV1 byV1 farV1 lowV1 =>
         Jv orderV1 byV1 farV1 lowV1))
         (Jv y_5 y_6 y_7 y_8)) ∧
      ∀ y_9 : List Int, ∀ y_10 : List Int, ∀ y_11 : List Int, ∀ y_12 : List Int, Jv y_9 y_10 y_11 y_12 →
      Iv2 (IntKind.i64.wrap (x3 + (1 : Int))) y_9 y_10 y_11 y_12 ∧ m2 (IntKind.i64.wrap (x3 + (1 : Int))) y_9 y_10 y_11 y_12 < m2 x3 y_5 y_6 y_7 y_8))
      (Iv (IntKind.i64.wrap (i + (1 : Int))) y_5 y_6 y_7 y_8 ∧ m (IntKind.i64.wrap (i + (1 : Int))) y_5 y_6 y_7 y_8 < m i y y_2 y_3 y_4))
    (R y y_2 y_3 y_4))
theorem ok176 {nV edgesV outV s} {R : List Int → List Int → List Int → List Int → Prop} (T : T176 nV edgesV outV s R) : Ok176 nV edgesV outV s R := by
  intro h lB lO edgesVA edgesVL edgesVC outVA outVL outVC outH H
  have Y : Sy h [] h _ := Sy.startM H rfl
  obtain rfl := Y.lenV 1 rfl
  obtain rfl := Y.lenW 2 rfl
  apply calls176
  unfold S176
  unfold T176 at T
  intro hv
  have Y : Sy _ _ hv [_, _, _, _] := Y.junk _
  clear_value hv
  refine ⟨lB, lO, rfl, ?_⟩
  refine ⟨_, Y.cellW 0 rfl 0 rfl, ?_⟩
  refine callX_sy (T _ (Hp.nil _)) (fun _ _ ⟨_, _, _, _, _, _, _, _, _, _, _, _, _, _, _, _, p, _⟩ => p.fr) (allc (fun h => by cases h) alln) ?_
  rintro v hv2 ⟨rA, rL, rC, r_2, rA2, rL2, rC2, r_3, rA3, rL3, rC3, r_4, rA4, rL4, rC4, r_5, PP, rfl, T⟩
  have Y : Sy _ _ hv2 [_, _, _, _, _, _, _, _] := Y.callV PP ⟨rfl, ⟨rfl, ⟨rfl, ⟨rfl, trivial⟩⟩⟩⟩
  clear PP
  obtain rfl := Y.lenS 4 rfl
  obtain rfl := Y.lenS 5 rfl
  obtain rfl := Y.lenS 6 rfl
  obtain rfl := Y.lenS 7 rfl
  refine ⟨_, _, _, _, _, _, _, _, _, _, _, _, rfl, ?_⟩
  intro hv3
  have Y : Sy _ _ hv3 [_, _, _, _, _, _, _, _, _] := Y.newO _
  clear_value hv3
  refine ⟨(Y.neJ 8 3 rfl rfl rfl (by simp [Ck.ob])), ⟨_, Y.cellO 8 rfl 0 rfl⟩, Y.freeO 8 rfl _, ⟨_, Y.cellO 8 rfl 1 rfl⟩, Y.freeO 8 rfl _, ⟨_, Y.cellO 8 rfl 2 rfl⟩, Y.freeO 8 rfl _, ⟨_, Y.cellO 8 rfl 3 rfl⟩, Y.freeO 8 rfl _, ?_⟩
  intro hv4
  have Y : Sy _ _ hv4 [_, _, _, _, _, _, _, _, _] := ((((Y.stO 8 rfl 0 _).stO 8 rfl 1 _).stO 8 rfl 2 _).stO 8 rfl 3 _)
  clear_value hv4
  obtain ⟨Iv, m, T0, T1⟩ := T
  obtain ⟨B, hB, YB⟩ := Y.cut [8, 4, 5, 6, 7] [0, 1, 2, 3] rfl
  obtain ⟨F, hF⟩ := Y.fnO (k := 8) [0, 1, 2, 3] rfl
  obtain ⟨JJ, hJJ⟩ : ∃ JJ : Nat → List Value → Heap → Prop, JJ = (fun k lz h' => ∃ (i : Int) (cA : Option Addr) (cL cC : Nat) (y : List Int) (cA_2 : Option Addr) (cL_2 cC_2 : Nat) (y_2 : List Int) (cA_3 : Option Addr) (cL_3 cC_3 : Nat) (y_3 : List Int) (cA_4 : Option Addr) (cL_4 cC_4 : Nat) (y_4 : List Int), lz = [.int .i64 i] ∧ Sy h [] h' ([F [.slice cA cL cC, .slice cA_2 cL_2 cC_2, .slice cA_3 cL_3 cC_3, .slice cA_4 cL_4 cC_4], Ck.sl eI 3 cA cL cC y, Ck.sl eI 3 cA_2 cL_2 cC_2 y_2, Ck.sl eI 3 cA_3 cL_3 cC_3 y_3, Ck.sl eI 3 cA_4 cL_4 cC_4 y_4] ++ B) ∧ Iv i y y_2 y_3 y_4 ∧ m i y y_2 y_3 y_4 = k) := ⟨_, rfl⟩
  refine ⟨fun lz h' => ∃ k, JJ k lz h', Lm JJ, ?_, ?_⟩
  · subst hJJ hB hF
    exact ⟨_, _, _, _, _, _, _, _, _, _, _, _, _, _, _, _, _, _, rfl, YB, T0, rfl⟩
  · clear YB T0 Y
    intro i hv5 hI
    obtain ⟨k, hI, hm⟩ := loopIn hI
    subst hJJ hB hF
    obtain ⟨i, cA, cL, cC, y, cA_2, cL_2, cC_2, y_2, cA_3, cL_3, cC_3, y_3, cA_4, cL_4, cC_4, y_4, e, Y, T, rfl⟩ := hI
    cases e
    obtain rfl := Y.lenS 1 rfl
    obtain rfl := Y.lenS 2 rfl
    obtain rfl := Y.lenS 3 rfl
    obtain rfl := Y.lenS 4 rfl
    replace T := T1 i y y_2 y_3 y_4 T
    have Y : Sy _ _ _ [_, _, _, _, _, _, _, _, _] := Y
    refine ⟨_, _, _, Y.cellO 0 rfl 0 rfl, ?_⟩
    refine cnd_imp T (fun T => ?_) (fun T => ?_)
    · refine ⟨_, _, _, Y.cellO 0 rfl 0 rfl, ?_⟩
      obtain ⟨q, q_2, T⟩ := T
      obtain ⟨b_2, hb, ho, x_2, hx⟩ := Y.atS 1 rfl q q_2
      refine ⟨b_2, 0, hb, q, q_2, ?_⟩
      replace T := T x_2 hx
      refine ⟨_, Y.cellS 1 rfl hb (t := 0) hx rfl, ?_⟩
      refine ⟨lB, lO, rfl, ?_⟩
      refine ⟨_, _, _, Y.cellW 5 rfl 2 rfl, ?_⟩
      obtain ⟨q_3, q_4, T⟩ := T
      obtain ⟨b_3, o_2, hb_2, hr_2, x_3, hx_2, r_6, hr⟩ := Y.atW 7 rfl q_3 q_4
      refine ⟨b_3, o_2, hb_2, q_3, q_4, ?_⟩
      replace T := T x_3 hx_2
      refine ⟨_, _, _, Y.cellWR 7 rfl hb_2 hr hx_2, ?_⟩
      obtain ⟨Iv2, m2, T0, T1⟩ := T
      obtain ⟨B_2, hB_2, YB⟩ := Y.cut [0, 1, 2, 3, 4] [5, 6, 7, 8] rfl
      obtain ⟨F_2, hF_2⟩ := Y.fnO (k := 0) [0, 1, 2, 3] rfl
      obtain ⟨JJ_2, hJJ_2⟩ : ∃ JJ_2 : Nat → List Value → Heap → Prop, JJ_2 = (fun k_2 lz h' => ∃ (x3 : Int) (cA_5 : Option Addr) (cL_5 cC_5 : Nat) (y_5 : List Int) (cA_6 : Option Addr) (cL_6 cC_6 : Nat) (y_6 : List Int) (cA_7 : Option Addr) (cL_7 cC_7 : Nat) (y_7 : List Int) (cA_8 : Option Addr) (cL_8 cC_8 : Nat) (y_8 : List Int), lz = [.int .i64 x3] ∧ Sy h [] h' ([F_2 [.slice cA_5 cL_5 cC_5, .slice cA_6 cL_6 cC_6, .slice cA_7 cL_7 cC_7, .slice cA_8 cL_8 cC_8], Ck.sl eI 3 cA_5 cL_5 cC_5 y_5, Ck.sl eI 3 cA_6 cL_6 cC_6 y_6, Ck.sl eI 3 cA_7 cL_7 cC_7 y_7, Ck.sl eI 3 cA_8 cL_8 cC_8 y_8] ++ B_2) ∧ Iv2 x3 y_5 y_6 y_7 y_8 ∧ m2 x3 y_5 y_6 y_7 y_8 = k_2) := ⟨_, rfl⟩
      refine ⟨fun lz h' => ∃ k_2, JJ_2 k_2 lz h', Lm JJ_2, ?_, ?_⟩
      · subst hJJ_2 hB_2 hF_2
        exact ⟨_, _, _, _, _, _, _, _, _, _, _, _, _, _, _, _, _, _, rfl, YB, T0, rfl⟩
      · clear YB T0 Y
        intro x3 hv6 hI
        obtain ⟨k_2, hI, hm_2⟩ := loopIn hI
        subst hJJ_2 hB_2 hF_2
        obtain ⟨x3, cA_5, cL_5, cC_5, y_5, cA_6, cL_6, cC_6, y_6, cA_7, cL_7, cC_7, y_7, cA_8, cL_8, cC_8, y_8, e, Y, T, rfl⟩ := hI
        cases e
        obtain rfl := Y.lenS 1 rfl
        obtain rfl := Y.lenS 2 rfl
        obtain rfl := Y.lenS 3 rfl
        obtain rfl := Y.lenS 4 rfl
        replace T := T1 x3 y_5 y_6 y_7 y_8 T
        have Y : Sy _ _ _ [_, _, _, _, _, _, _, _, _] := Y
        refine cnd_imp T (fun T => ?_) (fun T => ?_)
        · obtain ⟨q_5, q_6, T⟩ := T
          obtain ⟨b_4, o_3, hb_3, hr_3, x_4, hx_3⟩ := Y.atRowW 7 rfl hr hx_2 q_5 q_6
          refine ⟨b_4, o_3, hb_3, q_5, q_6, ?_⟩
          replace T := T x_4 hx_3
          refine ⟨_, Y.cellRowW 7 rfl hr hx_2 hb_3 (t := 0) hx_3 rfl, ?_⟩
          have Y0 := Y
          have F : Fr [] hv6 hv6 := Fr.refl _ _
          refine ⟨_, _, _, Y0.cellO 0 rfl 2 rfl, ?_⟩
          refine callX_sy (T _ _ _ _ _ _ _ _ _ _ (Y.pick [5, 6, 7] rfl).hp) (fun _ _ ⟨_, p, _⟩ => p.fr) (allc (fun h => by cases h) alln) ?_
          rintro v2 hv7 ⟨r, PP, rfl, T⟩
          have F : Fr _ _ hv7 := F.trans PP.fr.nil
          have fshv7 := F.size
          have Y : Sy _ _ hv7 [_, _, _, _, _, _, _, _, _] := Y.gr PP.fr
          clear PP
          refine ⟨r, rfl, ?_⟩
          refine ⟨F, ?_⟩
          obtain ⟨q_7, q_8, T⟩ := T
          obtain ⟨b_5, hb_4, ho_2, x_5, hx_4⟩ := Y.atS 3 rfl q_7 q_8
          refine ⟨b_5, 0, hb_4, q_7, q_8, ?_⟩
          replace T := T x_5 hx_4
          refine ⟨_, Y.cellS 3 rfl hb_4 (t := 0) hx_4 rfl, ?_⟩
          obtain ⟨Jv, T0, T1⟩ := T
          obtain ⟨B_3, hB_3, _⟩ := Y.cut [] [5, 6, 7, 8] rfl
          obtain ⟨F_3, hF_3⟩ := Y.fnO (k := 0) [0, 1, 2, 3] rfl
          refine ⟨fun lz h' => ∃ (cA_9 : Option Addr) (cL_9 cC_9 : Nat) (y_9 : List Int) (cA_10 : Option Addr) (cL_10 cC_10 : Nat) (y_10 : List Int) (cA_11 : Option Addr) (cL_11 cC_11 : Nat) (y_11 : List Int) (cA_12 : Option Addr) (cL_12 cC_12 : Nat) (y_12 : List Int), lz = [] ∧ Sy h [] h' ([F_3 [.slice cA_9 cL_9 cC_9, .slice cA_10 cL_10 cC_10, .slice cA_11 cL_11 cC_11, .slice cA_12 cL_12 cC_12], Ck.sl eI 3 cA_9 cL_9 cC_9 y_9, Ck.sl eI 3 cA_10 cL_10 cC_10 y_10, Ck.sl eI 3 cA_11 cL_11 cC_11 y_11, Ck.sl eI 3 cA_12 cL_12 cC_12 y_12] ++ B_3) ∧ Jv y_9 y_10 y_11 y_12, ?_, ?_⟩
          · subst hB_3 hF_3
            replace T := T0
            clear T0 T1
            refine cnd_imp T (fun T => ?_) (fun T => ?_)
            · refine ⟨_, _, _, Y.cellO 0 rfl 2 rfl, ?_⟩
              obtain ⟨q_9, q_10, T⟩ := T
              obtain ⟨b_6, hb_5, ho_3, x_6, hx_5⟩ := Y.atS 3 rfl q_9 q_10
              refine ⟨b_6, 0, hb_5, q_9, q_10, ?_⟩
              replace T := T x_6 hx_5
              refine ⟨_, Y.cellS 3 rfl hb_5 (t := 0) hx_5 rfl, ?_⟩
              refine callX_sy (T _ _ _ _ _ _ _ _ _ _ _ _ _ _ _ _ _ _ _ _ _ _ _ (Y.pick [5, 6, 7, 0, 1, 2, 3, 4] rfl).hp) (fun _ _ ⟨_, _, _, _, _, _, _, _, _, _, _, _, _, _, _, _, p, _⟩ => p.fr) (allc (Y.nO 8 [0, 1, 2, 3, 4] rfl rfl) alln) ?_
              rintro v3 hv8 ⟨orderVA2, orderVL2, orderVC2, orderV1, byVA2, byVL2, byVC2, byV1, farVA2, farVL2, farVC2, farV1, lowVA2, lowVL2, lowVC2, lowV1, PP, rfl, T⟩
              have Y : Sy _ _ hv8 [_, _, _, _, _, _, _, _, _] := Y.call2 [0, 1, 2, 3, 4, 5, 6, 7, 8] rfl (A := [_, _, _, _, _]) rfl rfl PP ⟨rfl, ⟨rfl, ⟨rfl, ⟨rfl, ⟨rfl, trivial⟩⟩⟩⟩⟩
              clear PP
              obtain rfl := Y.lenS 1 rfl
              obtain rfl := Y.lenS 2 rfl
              obtain rfl := Y.lenS 3 rfl
              obtain rfl := Y.lenS 4 rfl
              refine ⟨rfl, ?_⟩
              exact ⟨_, _, _, _, _, _, _, _, _, _, _, _, _, _, _, _, rfl, Y.pick [0, 1, 2, 3, 4, 5, 6, 7, 8] rfl, T⟩
            · exact ⟨_, _, _, _, _, _, _, _, _, _, _, _, _, _, _, _, rfl, Y.pick [0, 1, 2, 3, 4, 5, 6, 7, 8] rfl, T⟩
          · subst hB_3 hF_3
            clear T0 Y
            rintro hv9 ⟨cA_9, cL_9, cC_9, y_9, cA_10, cL_10, cC_10, y_10, cA_11, cL_11, cC_11, y_11, cA_12, cL_12, cC_12, y_12, e, Y, T⟩
            cases e
            obtain rfl := Y.lenS 1 rfl
            obtain rfl := Y.lenS 2 rfl
            obtain rfl := Y.lenS 3 rfl
            obtain rfl := Y.lenS 4 rfl
            replace T := T1 y_9 y_10 y_11 y_12 T
            have Y : Sy _ _ _ [_, _, _, _, _, _, _, _, _] := Y
            exact loopBack hm_2 ⟨_, _, _, _, _, _, _, _, _, _, _, _, _, _, _, _, _, rfl, Y.pick [0, 1, 2, 3, 4, 5, 6, 7, 8] rfl, T.1, rfl⟩ T.2
        · exact loopBack hm ⟨_, _, _, _, _, _, _, _, _, _, _, _, _, _, _, _, _, rfl, Y.pick [0, 1, 2, 3, 4, 5, 6, 7, 8] rfl, T.1, rfl⟩ T.2
    · refine ⟨_, _, _, Y.cellO 0 rfl 0 rfl, ?_⟩
      refine ⟨_, _, _, Y.cellO 0 rfl 1 rfl, ?_⟩
      refine ⟨_, _, _, Y.cellO 0 rfl 2 rfl, ?_⟩
      refine ⟨_, _, _, Y.cellO 0 rfl 3 rfl, ?_⟩
      intro hv10
      have Y : Sy _ _ hv10 [_, _, _, _, _, _, _, _, _] := ((((Y.stJ 8 rfl _ _).stJ 8 rfl _ _).stJ 8 rfl _ _).stJ 8 rfl _ _)
      clear_value hv10
      exact ⟨_, _, _, _, _, _, _, _, _, _, _, _, _, _, _, _, Y.pick [1, 2, 3, 4] rfl, rfl, T⟩
/-- tracery/walk.Breadth -/
def S81 (g : Int) (gA : Option Addr) (gL gC : Nat) (s : Int) (h : Heap) (R : Value → Heap → Prop) : Prop :=
  let hv : Heap := h.push (.cells #[.int .i64 g, .slice gA gL gC] 26)
  let hv2 : Heap := hv.push (.cells #[.slice none 0 0, .slice none 0 0, .slice none 0 0, .slice none 0 0] 113)
  callX Try.prog 174 #[.agg #[.int .i64 g, .slice gA gL gC], .int .i64 s] hv2 [hv.size, h.size] fun v hv3 =>
  ∃ r : Int, v = .int .i64 r ∧
  cnd (r != (0 : Int))
    (let hv4 : Heap := hset (hset (hset (hset hv3 hv.size 0 (.slice none 0 0)) hv.size (0 + 1) (.slice none 0 0)) hv.size ((0 + 1) + 1) (.slice none 0 0)) hv.size (((0 + 1) + 1) + 1) (.slice none 0 0)
    R (.tuple #[.agg #[.slice none 0 0, .slice none 0 0, .slice none 0 0, .slice none 0 0], .int .i64 r]) hv4)
    (callX Try.prog 175 #[.agg #[.int .i64 g, .slice gA gL gC]] hv3 [hv.size, h.size] fun v2 hv5 =>
    ∃ rP : Option Addr, v2 = .pointer rP ∧
    callX Try.prog 176 #[.pointer rP, .int .i64 s] hv5 [hv.size, h.size] fun v3 hv6 =>
    ∃ (rA : Option Addr) (rL rC : Nat), ∃ (rA2 : Option Addr) (rL2 rC2 : Nat), ∃ (rA3 : Option Addr) (rL3 rC3 : Nat), ∃ (rA4 : Option Addr) (rL4 rC4 : Nat), v3 = .agg #[.slice rA rL rC, .slice rA2 rL2 rC2, .slice rA3 rL3 rC3, .slice rA4 rL4 rC4] ∧
    let hv7 : Heap := hset (hset (hset (hset hv6 hv.size 0 (.slice rA rL rC)) hv.size (0 + 1) (.slice rA2 rL2 rC2)) hv.size ((0 + 1) + 1) (.slice rA3 rL3 rC3)) hv.size (((0 + 1) + 1) + 1) (.slice rA4 rL4 rC4)
    R (.tuple #[.agg #[.slice rA rL rC, .slice rA2 rL2 rC2, .slice rA3 rL3 rC3, .slice rA4 rL4 rC4], .int .i64 0]) hv7)
theorem calls81 {h : Heap} {R : Value → Heap → Prop} (g : Int) (gA : Option Addr) (gL gC : Nat) (s : Int) (H : S81 g gA gL gC s h R) : CallsH Try.prog 81 #[.agg #[.int .i64 g, .slice gA gL gC], .int .i64 s] h R := by
  have e : S81 g gA gL gC s h R = FX (envX [2, 4] 18) { loops := [], joins := [], blocks := [], draws := [] } Try.f81 (Try.f81.body.getD .skip) [.agg #[.int .i64 g, .slice gA gL gC], .int .i64 s] h R := by kernel_rfl
  exact calls_of_FX (envX_ok _ _) Try.func81 (by kernel_rfl) (by kernel_rfl) (by kernel_rfl) (e ▸ H)
/-- tracery/walk.Breadth -/
def Ok81 (g : Int) (edgesV : List (Int × Int)) (s : Int) (R : List Int → List Int → List Int → List Int → Int → Prop) : Prop :=
  ∀ (h : Heap) (gA : Option Addr) (gL gC : Nat), Hp h [Ck.vw eP gA gL gC edgesV] → CallsH Try.prog 81 #[.agg #[.int .i64 g, .slice gA gL gC], .int .i64 s] h fun v h' => ∃ (orderVA : Option Addr) (orderVL orderVC : Nat) (orderV : List Int) (byVA : Option Addr) (byVL byVC : Nat) (byV : List Int) (farVA : Option Addr) (farVL farVC : Nat) (farV : List Int) (lowVA : Option Addr) (lowVL lowVC : Nat) (lowV : List Int) (rbV : Int), Sy h [] h' [Ck.sl eI 3 orderVA orderVL orderVC orderV, Ck.sl eI 3 byVA byVL byVC byV, Ck.sl eI 3 farVA farVL farVC farV, Ck.sl eI 3 lowVA lowVL lowVC lowV] ∧ v = .tuple #[.agg #[.slice orderVA orderVL orderVC, .slice byVA byVL byVC, .slice farVA farVL farVC, .slice lowVA lowVL lowVC], .int .i64 rbV] ∧ R orderV byV farV lowV rbV
theorem Ok81.mono {g edgesV s} {R R' : List Int → List Int → List Int → List Int → Int → Prop} (H : Ok81 g edgesV s R) (kz : ∀ orderV byV farV lowV rbV, R orderV byV farV lowV rbV → R' orderV byV farV lowV rbV) : Ok81 g edgesV s R' :=
  fun h gA gL gC hp => (H h gA gL gC hp).mono fun _ _ ⟨orderVA, orderVL, orderVC, orderV, byVA, byVL, byVC, byV, farVA, farVL, farVC, farV, lowVA, lowVL, lowVC, lowV, rbV, P, e, q⟩ => ⟨orderVA, orderVL, orderVC, orderV, byVA, byVL, byVC, byV, farVA, farVL, farVC, farV, lowVA, lowVL, lowVC, lowV, rbV, P, e, kz _ _ _ _ _ q⟩
def T81 (g : Int) (edgesV : List (Int × Int)) (s : Int) (R : List Int → List Int → List Int → List Int → Int → Prop) : Prop :=
  Ok174 g edgesV s (fun r =>
  cnd (r != (0 : Int))
    (R ([] : List Int) ([] : List Int) ([] : List Int) ([] : List Int) r)
    (Ok175 g edgesV (fun nV outV =>
    Ok176 nV edgesV outV s (fun r_2 r_3 r_4 r_5 =>
    R r_2 r_3 r_4 r_5 0))))
theorem ok81 {g edgesV s} {R : List Int → List Int → List Int → List Int → Int → Prop} (T : T81 g edgesV s R) : Ok81 g edgesV s R := by
  intro h gA gL gC H
  have Y : Sy h [] h _ := Sy.startM H rfl
  obtain rfl := Y.lenV 0 rfl
  apply calls81
  unfold S81
  unfold T81 at T
  intro hv
  have Y : Sy _ _ hv [_, _] := Y.junk _
  clear_value hv
  intro hv2
  have Y : Sy _ _ hv2 [_, _, _] := Y.junk _
  clear_value hv2
  refine callX_sy (T _ _ _ _ (Y.pick [0] rfl).hp) (fun _ _ ⟨_, p, _⟩ => p.fr) (allc (fun h => by cases h) (allc (fun h => by cases h) alln)) ?_
  rintro v hv3 ⟨r, PP, rfl, T⟩
  have Y : Sy _ _ hv3 [_, _, _] := Y.gr PP.fr
  clear PP
  refine ⟨r, rfl, ?_⟩
  refine cnd_imp T (fun T => ?_) (fun T => ?_)
  · intro hv4
    have Y : Sy _ _ hv4 [_, _, _] := ((((Y.stJ 2 rfl _ _).stJ 2 rfl _ _).stJ 2 rfl _ _).stJ 2 rfl _ _)
    clear_value hv4
    have Y : Sy _ _ _ [_, _, _, _] := Y.nilS eI 3
    have Y : Sy _ _ _ [_, _, _, _, _] := Y.nilS eI 3
    have Y : Sy _ _ _ [_, _, _, _, _, _] := Y.nilS eI 3
    have Y : Sy _ _ _ [_, _, _, _, _, _, _] := Y.nilS eI 3
    exact ⟨_, _, _, _, _, _, _, _, _, _, _, _, _, _, _, _, _, Y.pick [3, 4, 5, 6] rfl, rfl, T⟩
  · refine callX_sy (T _ _ _ _ (Y.pick [0] rfl).hp) (fun _ _ ⟨_, _, _, _, _, _, _, p, _⟩ => p.fr) (allc (fun h => by cases h) (allc (fun h => by cases h) alln)) ?_
    rintro v2 hv5 ⟨rB_2, nV, outVA, outVL, outVC, outH, outV, PP, rfl, T⟩
    have Y : Sy _ _ hv5 [_, _, _, _, _] := Y.callV PP ⟨rfl, ⟨rfl, trivial⟩⟩
    clear PP
    obtain rfl := Y.lenR 4 rfl
    refine ⟨_, rfl, ?_⟩
    refine callX_sy (T _ _ _ _ _ _ _ _ _ _ (((Y.turn 3 rfl To.obvob).turn 4 rfl To.rowsv).pick [3, 0, 4] rfl).hp) (fun _ _ ⟨_, _, _, _, _, _, _, _, _, _, _, _, _, _, _, _, p, _⟩ => p.fr) (allc (fun h => by cases h) (allc (fun h => by cases h) alln)) ?_
    rintro v3 hv6 ⟨rA, rL, rC, r_2, rA2, rL2, rC2, r_3, rA3, rL3, rC3, r_4, rA4, rL4, rC4, r_5, PP, rfl, T⟩
    have Y : Sy _ _ hv6 [_, _, _, _, _, _, _, _, _] := Y.callV PP ⟨rfl, ⟨rfl, ⟨rfl, ⟨rfl, trivial⟩⟩⟩⟩
    clear PP
    obtain rfl := Y.lenS 5 rfl
    obtain rfl := Y.lenS 6 rfl
    obtain rfl := Y.lenS 7 rfl
    obtain rfl := Y.lenS 8 rfl
    refine ⟨_, _, _, _, _, _, _, _, _, _, _, _, rfl, ?_⟩
    intro hv7
    have Y : Sy _ _ hv7 [_, _, _, _, _, _, _, _, _] := ((((Y.stJ 2 rfl _ _).stJ 2 rfl _ _).stJ 2 rfl _ _).stJ 2 rfl _ _)
    clear_value hv7
    exact ⟨_, _, _, _, _, _, _, _, _, _, _, _, _, _, _, _, _, Y.pick [5, 6, 7, 8] rfl, rfl, T⟩
/-- (*tracery/walk.lay).lower -/
def S179 (lP : Option Addr) (tP : Option Addr) (placeA : Option Addr) (placeL placeC : Nat) (v : Int) (h : Heap) (R : Value → Heap → Prop) : Prop :=
  ∃ b o, placeA = some ⟨b, o, none⟩ ∧ 0 ≤ v ∧ v < (placeL : Nat) ∧ ∃ x : Int, hcell h b (o + (Int.toNat v) * 1) = some (.int .i64 x) ∧ ∃ b2 o2, lP = some ⟨b2, o2, none⟩ ∧ ∃ (xA : Option Addr) (xL xC : Nat), hcell h b2 (o2 + 2) = some (.slice xA xL xC) ∧ ∃ b3 o3, xA = some ⟨b3, o3, none⟩ ∧ 0 ≤ v ∧ v < (xL : Nat) ∧ ∃ (xA2 : Option Addr) (xL2 xC2 : Nat), hcell h b3 (o3 + (Int.toNat v) * 1) = some (.slice xA2 xL2 xC2) ∧ ∃ (Iv : List Value → Heap → Prop) (m : List Value → Heap → Nat), Iv [.int .i64 x, .int .i64 0] h ∧ -- loop 0: ['low', '24']
  ∀ low : Int, ∀ x2 : Int, ∀ hv, Iv [.int .i64 low, .int .i64 x2] hv →
  cnd (decide (x2 < ((xL2 : Nat) : Int)))
    (let K := fun (low5 : Int) (hv6 : Heap) =>
      (Iv [.int .i64 low5, .int .i64 (IntKind.i64.wrap (x2 + (1 : Int)))] hv6 ∧ m [.int .i64 low5, .int .i64 (IntKind.i64.wrap (x2 + (1 : Int)))] hv6 < m [.int .i64 low, .int .i64 x2] hv)
    ∃ b4 o4, xA2 = some ⟨b4, o4, none⟩ ∧ 0 ≤ x2 ∧ x2 < (xL2 : Nat) ∧ ∃ x3 : Int, hcell hv b4 (o4 + (Int.toNat x2) * 1) = some (.int .i64 x3) ∧ callX Try.prog 180 #[.pointer lP, .int .i64 x3] hv [] fun v2 hv2 =>
    ∃ r : Int, v2 = .int .i64 r ∧
    ∃ b5 o5, tP = some ⟨b5, o5, none⟩ ∧ ∃ (xA3 : Option Addr) (xL3 xC3 : Nat), hcell hv2 b5 (o5 + 1) = some (.slice xA3 xL3 xC3) ∧ ∃ b6 o6, xA3 = some ⟨b6, o6, none⟩ ∧ 0 ≤ v ∧ v < (xL3 : Nat) ∧ ∃ x4 : Int, hcell hv2 b6 (o6 + (Int.toNat v) * 1) = some (.int .i64 x4) ∧ cnd (decide (x4 ≥ (0 : Int)))
      (∃ b7 o7, tP = some ⟨b7, o7, none⟩ ∧ ∃ (xA4 : Option Addr) (xL4 xC4 : Nat), hcell hv2 b7 (o7 + 1) = some (.slice xA4 xL4 xC4) ∧ ∃ b8 o8, xA4 = some ⟨b8, o8, none⟩ ∧ 0 ≤ v ∧ v < (xL4 : Nat) ∧ ∃ x5 : Int, hcell hv2 b8 (o8 + (Int.toNat v) * 1) = some (.int .i64 x5) ∧ ∃ Jv : List Value → Heap → Prop, -- join 37 ['low']
      ( cnd (x3 == (bits .xor .i64 x5 (1 : Int)))
         (Jv [.int .i64 low] hv2)
         (∃ b9 o9, tP = some ⟨b9, o9, none⟩ ∧ ∃ (xA5 : Option Addr) (xL5 xC5 : Nat), hcell hv2 b9 (o9 + 1) = some (.slice xA5 xL5 xC5) ∧ ∃ b10 o10, xA5 = some ⟨b10, o10, none⟩ ∧ 0 ≤ r ∧ r < (xL5 : Nat) ∧ ∃ x6 : Int, hcell hv2 b10 (o10 + (Int.toNat r) * 1) = some (.int .i64 x6) ∧ ∃ Jv2 : List Value → Heap → Prop, -- join 58 ['low']
         ( cnd (x6 == x3)
            (∃ b11 o11, tP = some ⟨b11, o11, none⟩ ∧ ∃ (xA6 : Option Addr) (xL6 xC6 : Nat), hcell hv2 b11 (o11 + 3) = some (.slice xA6 xL6 xC6) ∧ ∃ b12 o12, xA6 = some ⟨b12, o12, none⟩ ∧ 0 ≤ r ∧ r < (xL6 : Nat) ∧ ∃ x7 : Int, hcell hv2 b12 (o12 + (Int.toNat r) * 1) = some (.int .i64 x7) ∧ Jv2 [.int .i64 (if x7 < low then x7 else low)] hv2)
            (∃ b13 o13, placeA = some ⟨b13, o13, none⟩ ∧ 0 ≤ r ∧ r < (placeL : Nat) ∧ ∃ x8 : Int, hcell hv2 b13 (o13 + (Int.toNat r) * 1) = some (.int .i64 x8) ∧ Jv2 [.int .i64 (if x8 < low then x8 else low)] hv2)) ∧
         ∀ low2 : Int, ∀ hv3, Jv2 [.int .i64 low2] hv3 →
         Jv [.int .i64 low2] hv3)) ∧
      ∀ low3 : Int, ∀ hv4, Jv [.int .i64 low3] hv4 →
      K low3 hv4)
      (∃ b14 o14, tP = some ⟨b14, o14, none⟩ ∧ ∃ (xA7 : Option Addr) (xL7 xC7 : Nat), hcell hv2 b14 (o14 + 1) = some (.slice xA7 xL7 xC7) ∧ ∃ b15 o15, xA7 = some ⟨b15, o15, none⟩ ∧ 0 ≤ r ∧ r < (xL7 : Nat) ∧ ∃ x9 : Int, hcell hv2 b15 (o15 + (Int.toNat r) * 1) = some (.int .i64 x9) ∧ ∃ Jv3 : List Value → Heap → Prop, -- join 58 ['low']
      ( cnd (x9 == x3)
         (∃ b16 o16, tP = some ⟨b16, o16, none⟩ ∧ ∃ (xA8 : Option Addr) (xL8 xC8 : Nat), hcell hv2 b16 (o16 + 3) = some (.slice xA8 xL8 xC8) ∧ ∃ b17 o17, xA8 = some ⟨b17, o17, none⟩ ∧ 0 ≤ r ∧ r < (xL8 : Nat) ∧ ∃ x10 : Int, hcell hv2 b17 (o17 + (Int.toNat r) * 1) = some (.int .i64 x10) ∧ Jv3 [.int .i64 (if x10 < low then x10 else low)] hv2)
         (∃ b18 o18, placeA = some ⟨b18, o18, none⟩ ∧ 0 ≤ r ∧ r < (placeL : Nat) ∧ ∃ x11 : Int, hcell hv2 b18 (o18 + (Int.toNat r) * 1) = some (.int .i64 x11) ∧ Jv3 [.int .i64 (if x11 < low then x11 else low)] hv2)) ∧
      ∀ low4 : Int, ∀ hv5, Jv3 [.int .i64 low4] hv5 →
      K low4 hv5))
    (∃ b19 o19, tP = some ⟨b19, o19, none⟩ ∧ ∃ (xA9 : Option Addr) (xL9 xC9 : Nat), hcell hv b19 (o19 + 3) = some (.slice xA9 xL9 xC9) ∧ ∃ b20 o20, xA9 = some ⟨b20, o20, none⟩ ∧ 0 ≤ v ∧ v < (xL9 : Nat) ∧ (∃ u, hcell hv b20 (o20 + (Int.toNat v) * 1) = some u) ∧ hfree hv b20 (o20 + (Int.toNat v) * 1) = true ∧ let hv7 : Heap := hset hv b20 (o20 + (Int.toNat v) * 1) (.int .i64 low)
    R (.tuple #[]) hv7)
theorem calls179 {h : Heap} {R : Value → Heap → Prop} (lP : Option Addr) (tP : Option Addr) (placeA : Option Addr) (placeL placeC : Nat) (v : Int) (H : S179 lP tP placeA placeL placeC v h R) : CallsH Try.prog 179 #[.pointer lP, .pointer tP, .slice placeA placeL placeC, .int .i64 v] h R := by
  have e : S179 lP tP placeA placeL placeC v h R = FX (envX [] 85) { loops := [(0, ⟨[0, 1, 2, 3, 22, 23], [8, 24], [], []⟩)], joins := [(37, ⟨[0, 1, 2, 3, 22, 23, 24], [8], [], []⟩), (58, ⟨[0, 1, 2, 3, 22, 23, 24], [8], [], []⟩)], blocks := [], draws := [] } Try.f179 (Try.f179.body.getD .skip) [.pointer lP, .pointer tP, .slice placeA placeL placeC, .int .i64 v] h R := by kernel_rfl
  exact calls_of_FX (envX_ok _ _) Try.func179 (by kernel_rfl) (by kernel_rfl) (by kernel_rfl) (e ▸ H)
/-- (*tracery/walk.lay).lower -/
def Ok179 (nV : Int) (edgesV : List (Int × Int)) (outV : List (List Int)) (orderV : List Int) (byV : List Int) (farV : List Int) (lowV : List Int) (placeV : List Int) (v : Int) (R : List Int → List Int → List Int → List Int → Prop) : Prop :=
  ∀ (h : Heap) (lB lO : Nat) (edgesVA : Option Addr) (edgesVL edgesVC : Nat) (outVA : Option Addr) (outVL outVC : Nat) (outH : List RowH) (tB : Nat) (orderVA : Option Addr) (orderVL orderVC : Nat) (byVA : Option Addr) (byVL byVC : Nat) (farVA : Option Addr) (farVL farVC : Nat) (lowVA : Option Addr) (lowVL lowVC : Nat) (placeA : Option Addr) (placeL placeC : Nat), Hp h [Ck.vob lB lO [.int .i64 nV, .slice edgesVA edgesVL edgesVC, .slice outVA outVL outVC], Ck.vw eP edgesVA edgesVL edgesVC edgesV, Ck.vrows eI outVA outVL outVC outH outV, Ck.ob tB 113 [.slice orderVA orderVL orderVC, .slice byVA byVL byVC, .slice farVA farVL farVC, .slice lowVA lowVL lowVC], Ck.sl eI 3 orderVA orderVL orderVC orderV, Ck.sl eI 3 byVA byVL byVC byV, Ck.sl eI 3 farVA farVL farVC farV, Ck.sl eI 3 lowVA lowVL lowVC lowV, Ck.vw eI placeA placeL placeC placeV] → CallsH Try.prog 179 #[.pointer (some ⟨lB, lO, none⟩), .pointer (some ⟨tB, 0, none⟩), .slice placeA placeL placeC, .int .i64 v] h fun v h' => ∃ (orderVA2 : Option Addr) (orderVL2 orderVC2 : Nat) (orderV1 : List Int) (byVA2 : Option Addr) (byVL2 byVC2 : Nat) (byV1 : List Int) (farVA2 : Option Addr) (farVL2 farVC2 : Nat) (farV1 : List Int) (lowVA2 : Option Addr) (lowVL2 lowVC2 : Nat) (lowV1 : List Int), Sy h (owns [Ck.ob tB 113 [.slice orderVA orderVL orderVC, .slice byVA byVL byVC, .slice farVA farVL farVC, .slice lowVA lowVL lowVC], Ck.sl eI 3 orderVA orderVL orderVC orderV, Ck.sl eI 3 byVA byVL byVC byV, Ck.sl eI 3 farVA farVL farVC farV, Ck.sl eI 3 lowVA lowVL lowVC lowV]) h' [Ck.ob tB 113 [.slice orderVA2 orderVL2 orderVC2, .slice byVA2 byVL2 byVC2, .slice farVA2 farVL2 farVC2, .slice lowVA2 lowVL2 lowVC2], Ck.sl eI 3 orderVA2 orderVL2 orderVC2 orderV1, Ck.sl eI 3 byVA2 byVL2 byVC2 byV1, Ck.sl eI 3 farVA2 farVL2 farVC2 farV1, Ck.sl eI 3 lowVA2 lowVL2 lowVC2 lowV1] ∧ v = .tuple #[] ∧ R orderV1 byV1 farV1 lowV1
theorem Ok179.mono {nV edgesV outV orderV byV farV lowV placeV v} {R R' : List Int → List Int → List Int → List Int → Prop} (H : Ok179 nV edgesV outV orderV byV farV lowV placeV v R) (kz : ∀ orderV1 byV1 farV1 lowV1, R orderV1 byV1 farV1 lowV1 → R' orderV1 byV1 farV1 lowV1) : Ok179 nV edgesV outV orderV byV farV lowV placeV v R' :=
  fun h lB lO edgesVA edgesVL edgesVC outVA outVL outVC outH tB orderVA orderVL orderVC byVA byVL byVC farVA farVL farVC lowVA lowVL lowVC placeA placeL placeC hp => (H h lB lO edgesVA edgesVL edgesVC outVA outVL outVC outH tB orderVA orderVL orderVC byVA byVL byVC farVA farVL farVC lowVA lowVL lowVC placeA placeL placeC hp).mono fun _ _ ⟨orderVA2, orderVL2, orderVC2, orderV1, byVA2, byVL2, byVC2, byV1, farVA2, farVL2, farVC2, farV1, lowVA2, lowVL2, lowVC2, lowV1, P, e, q⟩ => ⟨orderVA2, orderVL2, orderVC2, orderV1, byVA2, byVL2, byVC2, byV1, farVA2, farVL2, farVC2, farV1, lowVA2, lowVL2, lowVC2, lowV1, P, e, kz _ _ _ _ q⟩
def T179 (nV : Int) (edgesV : List (Int × Int)) (outV : List (List Int)) (orderV : List Int) (byV : List Int) (farV : List Int) (lowV : List Int) (placeV : List Int) (v : Int) (R : List Int → List Int → List Int → List Int → Prop) : Prop :=
  0 ≤ v ∧ v < ((placeV.length : Nat) : Int) ∧ ∀ place : Int, placeV[(Int.toNat v)]? = some place → 0 ≤ v ∧ v < ((outV.length : Nat) : Int) ∧ ∀ x_2 : List Int, outV[(Int.toNat v)]? = some x_2 → ∃ (Iv : Int → Int → Prop) (m : Int → Int → Nat), Iv place 0 ∧
  ∀ low : Int, ∀ x2 : Int, Iv low x2 →
  cnd (decide (x2 < ((x_2.length : Nat) : Int)))
    (∃ Jv_2 : Int → Prop,
    ( 0 ≤ x2 ∧ x2 < ((x_2.length : Nat) : Int) ∧ ∀ x_3 : Int, x_2[(Int.toNat x2)]? = some x_3 → Ok180 nV edgesV outV x_3 (fun r =>
     0 ≤ v ∧ v < ((byV.length : Nat) : Int) ∧ ∀ x_4 : Int, byV[(Int.toNat v)]? = some x_4 → cnd (decide (x_4 ≥ (0 : Int)))
       (∃ Jv : Int → Prop,
       ( cnd (x_3 == (bits .xor .i64 x_4 (1 : Int)))
          (Jv low)
          (0 ≤ r ∧ r < ((byV.length : Nat) : Int) ∧ ∀ x_5 : Int, byV[(Int.toNat r)]? = some x_5 → ∃ Jv2 : Int → Prop,
          ( cnd (x_5 == x_3)
             (0 ≤ r ∧ r < ((lowV.length : Nat) : Int) ∧ ∀ x_6 : Int, lowV[(Int.toNat r)]? = some x_6 → Jv2 (if x_6 < low then x_6 else low))
             (0 ≤ r ∧ r < ((placeV.length : Nat) : Int) ∧ ∀ place_2 : Int, placeV[(Int.toNat r)]? = some place_2 → Jv2 (if place_2 < low then place_2 else low))) ∧
          ∀ low2 : Int, Jv2 low2 →
          Jv low2)) ∧
       ∀ low3 : Int, Jv low3 →
       Jv_2 low3)
       (0 ≤ r ∧ r < ((byV.length : Nat) : Int) ∧ ∀ x_7 : Int, byV[(Int.toNat r)]? = some x_7 → ∃ Jv3 : Int → Prop,
       ( cnd (x_7 == x_3)
          (0 ≤ r ∧ r < ((lowV.length : Nat) : Int) ∧ ∀ x_8 : Int, lowV[(Int.toNat r)]? = some x_8 → Jv3 (if x_8 < low then x_8 else low))
          (0 ≤ r ∧ r < ((placeV.length : Nat) : Int) ∧ ∀ place_3 : Int, placeV[(Int.toNat r)]? = some place_3 → Jv3 (if place_3 < low then place_3 else low))) ∧
       ∀ low4 : Int, Jv3 low4 →
       Jv_2 low4))) ∧
    ∀ low5 : Int, Jv_2 low5 →
    Iv low5 (IntKind.i64.wrap (x2 + (1 : Int))) ∧ m low5 (IntKind.i64.wrap (x2 + (1 : Int))) < m low x2)
    (0 ≤ v ∧ v < ((lowV.length : Nat) : Int) ∧ R orderV byV farV (lowV.set (Int.toNat v) low))
theorem ok179 {nV edgesV outV orderV byV farV lowV placeV v} {R : List Int → List Int → List Int → List Int → Prop} (T : T179 nV edgesV outV orderV byV farV lowV placeV v R) : Ok179 nV edgesV outV orderV byV farV lowV placeV v R := by
  intro h lB lO edgesVA edgesVL edgesVC outVA outVL outVC outH tB orderVA orderVL orderVC byVA byVL byVC farVA farVL farVC lowVA lowVL lowVC placeA placeL placeC H
  have Y : Sy h (owns [Ck.ob tB 113 [.slice orderVA orderVL orderVC, .slice byVA byVL byVC, .slice farVA farVL farVC, .slice lowVA lowVL lowVC], Ck.sl eI 3 orderVA orderVL orderVC orderV, Ck.sl eI 3 byVA byVL byVC byV, Ck.sl eI 3 farVA farVL farVC farV, Ck.sl eI 3 lowVA lowVL lowVC lowV]) h _ := Sy.startM H rfl
  obtain rfl := Y.lenV 1 rfl
  obtain rfl := Y.lenW 2 rfl
  obtain rfl := Y.lenS 4 rfl
  obtain rfl := Y.lenS 5 rfl
  obtain rfl := Y.lenS 6 rfl
  obtain rfl := Y.lenS 7 rfl
  obtain rfl := Y.lenV 8 rfl
  apply calls179
  unfold S179
  unfold T179 at T
  obtain ⟨q, q_2, T⟩ := T
  obtain ⟨b_2, o_2, hb, hr, place, hx⟩ := Y.atV 8 rfl q q_2
  refine ⟨b_2, o_2, hb, q, q_2, ?_⟩
  replace T := T place hx
  refine ⟨_, Y.cellV 8 rfl hb (t := 0) hx rfl, ?_⟩
  refine ⟨lB, lO, rfl, ?_⟩
  refine ⟨_, _, _, Y.cellW 0 rfl 2 rfl, ?_⟩
  obtain ⟨q_3, q_4, T⟩ := T
  obtain ⟨b_3, o_3, hb_2, hr_3, x_2, hx_2, r_2, hr_2⟩ := Y.atW 2 rfl q_3 q_4
  refine ⟨b_3, o_3, hb_2, q_3, q_4, ?_⟩
  replace T := T x_2 hx_2
  refine ⟨_, _, _, Y.cellWR 2 rfl hb_2 hr_2 hx_2, ?_⟩
  obtain ⟨Iv, m, T0, T1⟩ := T
  obtain ⟨B, hB, YB⟩ := Y.cut [] [0, 1, 2, 3, 4, 5, 6, 7, 8] rfl
  obtain ⟨JJ, hJJ⟩ : ∃ JJ : Nat → List Value → Heap → Prop, JJ = (fun k lz h' => ∃ (low : Int) (x2 : Int), lz = [.int .i64 low, .int .i64 x2] ∧ Sy h (owns [Ck.ob tB 113 [.slice orderVA orderV.length orderVC, .slice byVA byV.length byVC, .slice farVA farV.length farVC, .slice lowVA lowV.length lowVC], Ck.sl eI 3 orderVA orderV.length orderVC orderV, Ck.sl eI 3 byVA byV.length byVC byV, Ck.sl eI 3 farVA farV.length farVC farV, Ck.sl eI 3 lowVA lowV.length lowVC lowV]) h' ([] ++ B) ∧ Iv low x2 ∧ m low x2 = k) := ⟨_, rfl⟩
  refine ⟨fun lz h' => ∃ k, JJ k lz h', Lm JJ, ?_, ?_⟩
  · subst hJJ hB
    exact ⟨_, _, _, rfl, YB, T0, rfl⟩
  · clear YB T0 Y
    intro low x2 hv hI
    obtain ⟨k, hI, hm⟩ := loopIn hI
    subst hJJ hB
    obtain ⟨low, x2, e, Y, T, rfl⟩ := hI
    cases e
    replace T := T1 low x2 T
    have Y : Sy _ _ _ [_, _, _, _, _, _, _, _, _] := Y
    refine cnd_imp T (fun T => ?_) (fun T => ?_)
    · obtain ⟨Jv_2, T0, T1⟩ := T
      obtain ⟨B_2, hB_2, _⟩ := Y.cut [] [0, 1, 2, 3, 4, 5, 6, 7, 8] rfl
      intro K
      have hK : ∀ (low5 : Int) (hv6 : Heap), (Sy h (owns [Ck.ob tB 113 [.slice orderVA orderV.length orderVC, .slice byVA byV.length byVC, .slice farVA farV.length farVC, .slice lowVA lowV.length lowVC], Ck.sl eI 3 orderVA orderV.length orderVC orderV, Ck.sl eI 3 byVA byV.length byVC byV, Ck.sl eI 3 farVA farV.length farVC farV, Ck.sl eI 3 lowVA lowV.length lowVC lowV]) hv6 ([] ++ B_2) ∧ Jv_2 low5) → K low5 hv6 := by
        subst hB_2
        clear T0 Y
        rintro low5 hv6 ⟨Y, T⟩
        replace T := T1 low5 T
        have Y : Sy _ _ _ [_, _, _, _, _, _, _, _, _] := Y
        unfold K
        exact loopBack hm ⟨_, _, rfl, Y.pick [0, 1, 2, 3, 4, 5, 6, 7, 8] rfl, T.1, rfl⟩ T.2
      subst hB_2
      replace T := T0
      clear T0 T1
      obtain ⟨q_5, q_6, T⟩ := T
      obtain ⟨b_4, o_4, hb_3, hr_4, x_3, hx_3⟩ := Y.atRowW 2 rfl hr_2 hx_2 q_5 q_6
      refine ⟨b_4, o_4, hb_3, q_5, q_6, ?_⟩
      replace T := T x_3 hx_3
      refine ⟨_, Y.cellRowW 2 rfl hr_2 hx_2 hb_3 (t := 0) hx_3 rfl, ?_⟩
      refine callX_sy (T _ _ _ _ _ _ _ _ _ _ (Y.pick [0, 1, 2] rfl).hp) (fun _ _ ⟨_, p, _⟩ => p.fr) alln ?_
      rintro v2 hv2 ⟨r, PP, rfl, T⟩
      have Y : Sy _ _ hv2 [_, _, _, _, _, _, _, _, _] := Y.gr PP.fr
      clear PP
      refine ⟨r, rfl, ?_⟩
      refine ⟨tB, 0, rfl, ?_⟩
      refine ⟨_, _, _, Y.cellO 3 rfl 1 rfl, ?_⟩
      obtain ⟨q_7, q_8, T⟩ := T
      obtain ⟨b_5, hb_4, ho, x_4, hx_4⟩ := Y.atS 5 rfl q_7 q_8
      refine ⟨b_5, 0, hb_4, q_7, q_8, ?_⟩
      replace T := T x_4 hx_4
      refine ⟨_, Y.cellS 5 rfl hb_4 (t := 0) hx_4 rfl, ?_⟩
      refine cnd_imp T (fun T => ?_) (fun T => ?_)
      · refine ⟨tB, 0, rfl, ?_⟩
        refine ⟨_, _, _, Y.cellO 3 rfl 1 rfl, ?_⟩
        refine ⟨b_5, 0, hb_4, q_7, q_8, ?_⟩
        refine ⟨_, Y.cellS 5 rfl hb_4 (t := 0) hx_4 rfl, ?_⟩
        obtain ⟨Jv, T0, T1⟩ := T
        obtain ⟨B_3, hB_3, _⟩ := Y.cut [] [0, 1, 2, 3, 4, 5, 6, 7, 8] rfl
        refine ⟨fun lz h' => ∃ (low3 : Int), lz = [.int .i64 low3] ∧ Sy h (owns [Ck.ob tB 113 [.slice orderVA orderV.length orderVC, .slice byVA byV.length byVC, .slice farVA farV.length farVC, .slice lowVA lowV.length lowVC], Ck.sl eI 3 orderVA orderV.length orderVC orderV, Ck.sl eI 3 byVA byV.length byVC byV, Ck.sl eI 3 farVA farV.length farVC farV, Ck.sl eI 3 lowVA lowV.length lowVC lowV]) h' ([] ++ B_3) ∧ Jv low3, ?_, ?_⟩
        · subst hB_3
          replace T := T0
          clear T0 T1
          refine cnd_imp T (fun T => ?_) (fun T => ?_)
          · exact ⟨_, rfl, Y.pick [0, 1, 2, 3, 4, 5, 6, 7, 8] rfl, T⟩
          · refine ⟨tB, 0, rfl, ?_⟩
            refine ⟨_, _, _, Y.cellO 3 rfl 1 rfl, ?_⟩
            obtain ⟨q_9, q_10, T⟩ := T
            obtain ⟨b_6, hb_5, ho_2, x_5, hx_5⟩ := Y.atS 5 rfl q_9 q_10
            refine ⟨b_6, 0, hb_5, q_9, q_10, ?_⟩
            replace T := T x_5 hx_5
            refine ⟨_, Y.cellS 5 rfl hb_5 (t := 0) hx_5 rfl, ?_⟩
            obtain ⟨Jv2, T0, T1⟩ := T
            obtain ⟨B_4, hB_4, _⟩ := Y.cut [] [0, 1, 2, 3, 4, 5, 6, 7, 8] rfl
            refine ⟨fun lz h' => ∃ (low2 : Int), lz = [.int .i64 low2] ∧ Sy h (owns [Ck.ob tB 113 [.slice orderVA orderV.length orderVC, .slice byVA byV.length byVC, .slice farVA farV.length farVC, .slice lowVA lowV.length lowVC], Ck.sl eI 3 orderVA orderV.length orderVC orderV, Ck.sl eI 3 byVA byV.length byVC byV, Ck.sl eI 3 farVA farV.length farVC farV, Ck.sl eI 3 lowVA lowV.length lowVC lowV]) h' ([] ++ B_4) ∧ Jv2 low2, ?_, ?_⟩
            · subst hB_4
              replace T := T0
              clear T0 T1
              refine cnd_imp T (fun T => ?_) (fun T => ?_)
              · refine ⟨tB, 0, rfl, ?_⟩
                refine ⟨_, _, _, Y.cellO 3 rfl 3 rfl, ?_⟩
                obtain ⟨q_11, q_12, T⟩ := T
                obtain ⟨b_7, hb_6, ho_3, x_6, hx_6⟩ := Y.atS 7 rfl q_11 q_12
                refine ⟨b_7, 0, hb_6, q_11, q_12, ?_⟩
                replace T := T x_6 hx_6
                refine ⟨_, Y.cellS 7 rfl hb_6 (t := 0) hx_6 rfl, ?_⟩
                exact ⟨_, rfl, Y.pick [0, 1, 2, 3, 4, 5, 6, 7, 8] rfl, T⟩
              · obtain ⟨q_13, q_14, T⟩ := T
                obtain ⟨b_8, o_5, hb_7, hr_5, place_2, hx_7⟩ := Y.atV 8 rfl q_13 q_14
                refine ⟨b_8, o_5, hb_7, q_13, q_14, ?_⟩
                replace T := T place_2 hx_7
                refine ⟨_, Y.cellV 8 rfl hb_7 (t := 0) hx_7 rfl, ?_⟩
                exact ⟨_, rfl, Y.pick [0, 1, 2, 3, 4, 5, 6, 7, 8] rfl, T⟩
            · subst hB_4
              clear T0 Y
              rintro low2 hv3 ⟨low2, e, Y, T⟩
              cases e
              replace T := T1 low2 T
              have Y : Sy _ _ _ [_, _, _, _, _, _, _, _, _] := Y
              exact ⟨_, rfl, Y.pick [0, 1, 2, 3, 4, 5, 6, 7, 8] rfl, T⟩
        · subst hB_3
          clear T0 Y
          rintro low3 hv4 ⟨low3, e, Y, T⟩
          cases e
          replace T := T1 low3 T
          have Y : Sy _ _ _ [_, _, _, _, _, _, _, _, _] := Y
          exact hK _ _ ⟨Y.pick [0, 1, 2, 3, 4, 5, 6, 7, 8] rfl, T⟩
      · refine ⟨tB, 0, rfl, ?_⟩
        refine ⟨_, _, _, Y.cellO 3 rfl 1 rfl, ?_⟩
        obtain ⟨q_15, q_16, T⟩ := T
        obtain ⟨b_9, hb_8, ho_4, x_7, hx_8⟩ := Y.atS 5 rfl q_15 q_16
        refine ⟨b_9, 0, hb_8, q_15, q_16, ?_⟩
        replace T := T x_7 hx_8
        refine ⟨_, Y.cellS 5 rfl hb_8 (t := 0) hx_8 rfl, ?_⟩
        obtain ⟨Jv3, T0, T1⟩ := T
        obtain ⟨B_5, hB_5, _⟩ := Y.cut [] [0, 1, 2, 3, 4, 5, 6, 7, 8] rfl
        refine ⟨fun lz h' => ∃ (low4 : Int), lz = [.int .i64 low4] ∧ Sy h (owns [Ck.ob tB 113 [.slice orderVA orderV.length orderVC, .slice byVA byV.length byVC, .slice farVA farV.length farVC, .slice lowVA lowV.length lowVC], Ck.sl eI 3 orderVA orderV.length orderVC orderV, Ck.sl eI 3 byVA byV.length byVC byV, Ck.sl eI 3 farVA farV.length farVC farV, Ck.sl eI 3 lowVA lowV.length lowVC lowV]) h' ([] ++ B_5) ∧ Jv3 low4, ?_, ?_⟩
        · subst hB_5
          replace T := T0
          clear T0 T1
          refine cnd_imp T (fun T => ?_) (fun T => ?_)
          · refine ⟨tB, 0, rfl, ?_⟩
            refine ⟨_, _, _, Y.cellO 3 rfl 3 rfl, ?_⟩
            obtain ⟨q_17, q_18, T⟩ := T
            obtain ⟨b_10, hb_9, ho_5, x_8, hx_9⟩ := Y.atS 7 rfl q_17 q_18
            refine ⟨b_10, 0, hb_9, q_17, q_18, ?_⟩
            replace T := T x_8 hx_9
            refine ⟨_, Y.cellS 7 rfl hb_9 (t := 0) hx_9 rfl, ?_⟩
            exact ⟨_, rfl, Y.pick [0, 1, 2, 3, 4, 5, 6, 7, 8] rfl, T⟩
          · obtain ⟨q_19, q_20, T⟩ := T
            obtain ⟨b_11, o_6, hb_10, hr_6, place_3, hx_10⟩ := Y.atV 8 rfl q_19 q_20
            refine ⟨b_11, o_6, hb_10, q_19, q_20, ?_⟩
            replace T := T place_3 hx_10
            refine ⟨_, Y.cellV 8 rfl hb_10 (t := 0) hx_10 rfl, ?_⟩
            exact ⟨_, rfl, Y.pick [0, 1, 2, 3, 4, 5, 6, 7, 8] rfl, T⟩
        · subst hB_5
          clear T0 Y
          rintro low4 hv5 ⟨low4, e, Y, T⟩
          cases e
          replace T := T1 low4 T
          have Y : Sy _ _ _ [_, _, _, _, _, _, _, _, _] := Y
          exact hK _ _ ⟨Y.pick [0, 1, 2, 3, 4, 5, 6, 7, 8] rfl, T⟩
    · refine ⟨tB, 0, rfl, ?_⟩
      refine ⟨_, _, _, Y.cellO 3 rfl 3 rfl, ?_⟩
      obtain ⟨q_21, q_22, T⟩ := T
      obtain ⟨b_12, hb_11, ho_6, x_9, hx_11⟩ := Y.atS 7 rfl q_21 q_22
      refine ⟨b_12, 0, hb_11, q_21, q_22, ?_⟩
      refine ⟨Y.cellEx 7 rfl hb_11 (t := 0) (by omega) (by decide), Y.freeS 7 rfl hb_11 _, ?_⟩
      intro hv7
      have Y : Sy _ _ hv7 [_, _, _, _, _, _, _, _, _] := Y.st1 7 rfl hb_11 low (by omega) rfl
      clear_value hv7
      exact ⟨_, _, _, _, _, _, _, _, _, _, _, _, _, _, _, _, Y.pick [3, 4, 5, 6, 7] rfl, rfl, T⟩
/-- tracery/walk.Depth -/
def S82 (g : Int) (gA : Option Addr) (gL gC : Nat) (s : Int) (h : Heap) (R : Value → Heap → Prop) : Prop :=
  let hv : Heap := h.push (.cells #[.int .i64 g, .slice gA gL gC] 26)
  let hv2 : Heap := hv.push (.cells #[.slice none 0 0, .slice none 0 0, .slice none 0 0, .slice none 0 0] 113)
  callX Try.prog 174 #[.agg #[.int .i64 g, .slice gA gL gC], .int .i64 s] hv2 [hv.size, h.size] fun v hv3 =>
  ∃ r : Int, v = .int .i64 r ∧
  cnd (r != (0 : Int))
    (let hv4 : Heap := hset (hset (hset (hset hv3 hv.size 0 (.slice none 0 0)) hv.size (0 + 1) (.slice none 0 0)) hv.size ((0 + 1) + 1) (.slice none 0 0)) hv.size (((0 + 1) + 1) + 1) (.slice none 0 0)
    R (.tuple #[.agg #[.slice none 0 0, .slice none 0 0, .slice none 0 0, .slice none 0 0], .int .i64 r]) hv4)
    (callX Try.prog 175 #[.agg #[.int .i64 g, .slice gA gL gC]] hv3 [hv.size, h.size] fun v2 hv5 =>
    ∃ rP : Option Addr, v2 = .pointer rP ∧
    callX Try.prog 177 #[.int .i64 g, .int .i64 s] hv5 [hv.size, h.size] fun v3 hv6 =>
    ∃ (rA : Option Addr) (rL rC : Nat), ∃ (rA2 : Option Addr) (rL2 rC2 : Nat), ∃ (rA3 : Option Addr) (rL3 rC3 : Nat), ∃ (rA4 : Option Addr) (rL4 rC4 : Nat), v3 = .agg #[.slice rA rL rC, .slice rA2 rL2 rC2, .slice rA3 rL3 rC3, .slice rA4 rL4 rC4] ∧
    let hv7 : Heap := hv6.push (.cells #[.slice none 0 0, .slice none 0 0, .slice none 0 0, .slice none 0 0] 113)
    hv6.size ≠ hv.size ∧ hv6.size ≠ h.size ∧ (∃ u, hcell hv7 hv6.size 0 = some u) ∧ hfree hv7 hv6.size 0 = true ∧ (∃ u, hcell hv7 hv6.size (0 + 1) = some u) ∧ hfree hv7 hv6.size (0 + 1) = true ∧ (∃ u, hcell hv7 hv6.size ((0 + 1) + 1) = some u) ∧ hfree hv7 hv6.size ((0 + 1) + 1) = true ∧ (∃ u, hcell hv7 hv6.size (((0 + 1) + 1) + 1) = some u) ∧ hfree hv7 hv6.size (((0 + 1) + 1) + 1) = true ∧ let hv8 : Heap := hset (hset (hset (hset hv7 hv6.size 0 (.slice rA rL rC)) hv6.size (0 + 1) (.slice rA2 rL2 rC2)) hv6.size ((0 + 1) + 1) (.slice rA3 rL3 rC3)) hv6.size (((0 + 1) + 1) + 1) (.slice rA4 rL4 rC4)
    callX Try.prog 178 #[.int .i64 g, .int .i64 (-1)] hv8 [hv.size, h.size] fun v4 hv9 =>
    ∃ (rA5 : Option Addr) (rL5 rC5 : Nat), v4 = .slice rA5 rL5 rC5 ∧
    hv6.size ≠ hv.size ∧ hv6.size ≠ h.size ∧ (∃ u, hcell hv9 hv6.size (0 + 3) = some u) ∧ hfree hv9 hv6.size (0 + 3) = true ∧ let hv10 : Heap := hset hv9 hv6.size (0 + 3) (.slice rA5 rL5 rC5)
    callX Try.prog 178 #[.int .i64 g, .int .i64 (-1)] hv10 [hv.size, h.size] fun v5 hv11 =>
    ∃ (rA6 : Option Addr) (rL6 rC6 : Nat), v5 = .slice rA6 rL6 rC6 ∧
    ∃ b o, rA6 = some ⟨b, o, none⟩ ∧ 0 ≤ s ∧ s < (rL6 : Nat) ∧ b ≠ hv.size ∧ b ≠ h.size ∧ (∃ u, hcell hv11 b (o + (Int.toNat s) * 1) = some u) ∧ hfree hv11 b (o + (Int.toNat s) * 1) = true ∧ let hv12 : Heap := hset hv11 b (o + (Int.toNat s) * 1) (.int .i64 0)
    0 ≤ g ∧ g ≤ g ∧ ((8 : Nat) : Int) * g ≤ 281474976710656 ∧ g ≤ 9223372036854775807 ∧ let hv13 : Heap := hv12.push (.cells (madeCells (List.toArray [.int .i64 0]) (Int.toNat g * 1)) 3)
    let hv14 : Heap := hv13.push (.cells #[.int .i64 s] 3)
    ∃ (Iv : List Value → Heap → Prop) (m : List Value → Heap → Nat), Iv [.slice (some (⟨hv13.size, 0, none⟩ : Addr)) 1 1] hv14 ∧ -- loop 0: ['path']
    ∀ (pathA : Option Addr) (pathL pathC : Nat), ∀ hv15, Iv [.slice pathA pathL pathC] hv15 →
    cnd (decide (((pathL : Nat) : Int) > (0 : Int)))
      (∃ Jv : List Value → Heap → Prop, -- block 1 ['path']
      ( ∃ b2 o2, pathA = some ⟨b2, o2, none⟩ ∧ 0 ≤ (IntKind.i64.wrap (((pathL : Nat) : Int) - (1 : Int))) ∧ (IntKind.i64.wrap (((pathL : Nat) : Int) - (1 : Int))) < (pathL : Nat) ∧ ∃ x : Int, hcell hv15 b2 (o2 + (Int.toNat (IntKind.i64.wrap (((pathL : Nat) : Int) - (1 : Int)))) * 1) = some (.int .i64 x) ∧ ∃ b3 o3, (some (⟨hv12.size, 0, none⟩ : Addr)) = some ⟨b3, o3, none⟩ ∧ 0 ≤ x ∧ x < ((Int.toNat g) : Nat) ∧ ∃ x2 : Int, hcell hv15 b3 (o3 + (Int.toNat x) * 1) = some (.int .i64 x2) ∧ ∃ b4 o4, rP = some ⟨b4, o4, none⟩ ∧ ∃ (xA : Option Addr) (xL xC : Nat), hcell hv15 b4 (o4 + 2) = some (.slice xA xL xC) ∧ ∃ b5 o5, xA = some ⟨b5, o5, none⟩ ∧ 0 ≤ x ∧ x < (xL : Nat) ∧ ∃ (xA2 : Option Addr) (xL2 xC2 : Nat), hcell hv15 b5 (o5 + (Int.toNat x) * 1) = some (.slice xA2 xL2 xC2) ∧ cnd (x2 == ((xL2 : Nat) : Int))
         (callX Try.prog 179 #[.pointer rP, .pointer (some (⟨hv6.size, 0, none⟩ : Addr)), .slice rA6 rL6 rC6, .int .i64 x] hv15 [hv.size] fun v6 hv16 =>
         v6 = .tuple #[] ∧
         0 ≤ (IntKind.i64.wrap (((pathL : Nat) : Int) - (1 : Int))) ∧ (IntKind.i64.wrap (((pathL : Nat) : Int) - (1 : Int))) ≤ (pathC : Nat) ∧ Jv [.slice (if pathC = 0 then pathA else Option.map (fun addr => Addr.add addr (0 * 1)) pathA) ((Int.toNat (IntKind.i64.wrap (((pathL : Nat) : Int) - (1 : Int)))) - 0) (pathC - 0)] hv16)
         (∃ b6 o6, rP = some ⟨b6, o6, none⟩ ∧ ∃ (xA3 : Option Addr) (xL3 xC3 : Nat), hcell hv15 b6 (o6 + 2) = some (.slice xA3 xL3 xC3) ∧ ∃ b7 o7, xA3 = some ⟨b7, o7, none⟩ ∧ 0 ≤ x ∧ x < (xL3 : Nat) ∧ ∃ (xA4 : Option Addr) (xL4 xC4 : Nat), hcell hv15 b7 (o7 + (Int.toNat x) * 1) = some (.slice xA4 xL4 xC4) ∧ ∃ b8 o8, (some (⟨hv12.size, 0, none⟩ : Addr)) = some ⟨b8, o8, none⟩ ∧ 0 ≤ x ∧ x < ((Int.toNat g) : Nat) ∧ ∃ x3 : Int, hcell hv15 b8 (o8 + (Int.toNat x) * 1) = some (.int .i64 x3) ∧ ∃ b9 o9, xA4 = some ⟨b9, o9, none⟩ ∧ 0 ≤ x3 ∧ x3 < (xL4 : Nat) ∧ ∃ x4 : Int, hcell hv15 b9 (o9 + (Int.toNat x3) * 1) = some (.int .i64 x4) ∧ ∃ b10 o10, (some (⟨hv12.size, 0, none⟩ : Addr)) = some ⟨b10, o10, none⟩ ∧ 0 ≤ x ∧ x < ((Int.toNat g) : Nat) ∧ ∃ x5 : Int, hcell hv15 b10 (o10 + (Int.toNat x) * 1) = some (.int .i64 x5) ∧ ∃ b11 o11, (some (⟨hv12.size, 0, none⟩ : Addr)) = some ⟨b11, o11, none⟩ ∧ 0 ≤ x ∧ x < ((Int.toNat g) : Nat) ∧ b11 ≠ hv.size ∧ (∃ u, hcell hv15 b11 (o11 + (Int.toNat x) * 1) = some u) ∧ hfree hv15 b11 (o11 + (Int.toNat x) * 1) = true ∧ let hv17 : Heap := hset hv15 b11 (o11 + (Int.toNat x) * 1) (.int .i64 (IntKind.i64.wrap (x5 + (1 : Int))))
         callX Try.prog 180 #[.pointer rP, .int .i64 x4] hv17 [hv.size] fun v7 hv18 =>
         ∃ r2 : Int, v7 = .int .i64 r2 ∧
         ∃ (xA5 : Option Addr) (xL5 xC5 : Nat), hcell hv18 hv6.size (0 + 2) = some (.slice xA5 xL5 xC5) ∧ ∃ b12 o12, xA5 = some ⟨b12, o12, none⟩ ∧ 0 ≤ r2 ∧ r2 < (xL5 : Nat) ∧ ∃ x6 : Int, hcell hv18 b12 (o12 + (Int.toNat r2) * 1) = some (.int .i64 x6) ∧ ∃ Jv2 : List Value → Heap → Prop, -- join 101 ['path']
         ( cnd (decide (x6 < (0 : Int)))
            (∃ (xA6 : Option Addr) (xL6 xC6 : Nat), hcell hv18 hv6.size 0 = some (.slice xA6 xL6 xC6) ∧ ∃ b13 o13, rA6 = some ⟨b13, o13, none⟩ ∧ 0 ≤ r2 ∧ r2 < (rL6 : Nat) ∧ b13 ≠ hv.size ∧ (∃ u, hcell hv18 b13 (o13 + (Int.toNat r2) * 1) = some u) ∧ hfree hv18 b13 (o13 + (Int.toNat r2) * 1) = true ∧ let hv19 : Heap := hset hv18 b13 (o13 + (Int.toNat r2) * 1) (.int .i64 ((xL6 : Nat) : Int))
            ∃ (xA7 : Option Addr) (xL7 xC7 : Nat), hcell hv19 hv6.size (0 + 2) = some (.slice xA7 xL7 xC7) ∧ ∃ b14 o14, xA7 = some ⟨b14, o14, none⟩ ∧ 0 ≤ x ∧ x < (xL7 : Nat) ∧ ∃ x7 : Int, hcell hv19 b14 (o14 + (Int.toNat x) * 1) = some (.int .i64 x7) ∧ callX Try.prog 181 #[.pointer rP, .pointer (some (⟨hv6.size, 0, none⟩ : Addr)), .int .i64 x4, .int .i64 (IntKind.i64.wrap (x7 + (1 : Int)))] hv19 [hv.size] fun v8 hv20 =>
            v8 = .tuple #[] ∧
            let hv21 : Heap := hv20.push (.cells #[.int .i64 r2] 3)
            ∃ old, Ownd hv21 3 1 pathA pathL pathC old ∧ (∀ b ∈ ([hv20.size, hv.size] : List Nat), b ∉ blkOf pathA) ∧ (pathL + 1) * 8 ≤ 140737488355328 ∧ (pathL + 1) ≤ maxLen ∧
            ∀ sA sC hv22, Ownd hv22 3 1 sA (pathL + 1) sC (old ++ [.int .i64 r2]) → Fr (blkOf pathA) hv21 hv22 → ((sA = pathA ∧ sC = pathC) ∨ ∃ g, sA = some ⟨g, 0, none⟩ ∧ hv21.size ≤ g) → (pathC < (pathL + 1) → Fr [] hv21 hv22) →
            Jv2 [.slice sA (pathL + 1) sC] hv22)
            (Jv2 [.slice pathA pathL pathC] hv18)) ∧
         ∀ (pathA2 : Option Addr) (pathL2 pathC2 : Nat), ∀ hv23, Jv2 [.slice pathA2 pathL2 pathC2] hv23 →
         Jv [.slice pathA2 pathL2 pathC2] hv23)) ∧
      ∀ (pathA3 : Option Addr) (pathL3 pathC3 : Nat), ∀ hv24, Jv [.slice pathA3 pathL3 pathC3] hv24 →
      Iv [.slice pathA3 pathL3 pathC3] hv24 ∧ m [.slice pathA3 pathL3 pathC3] hv24 < m [.slice pathA pathL pathC] hv15)
      (∃ (xA8 : Option Addr) (xL8 xC8 : Nat), hcell hv15 hv6.size 0 = some (.slice xA8 xL8 xC8) ∧ ∃ (xA9 : Option Addr) (xL9 xC9 : Nat), hcell hv15 hv6.size (0 + 1) = some (.slice xA9 xL9 xC9) ∧ ∃ (xA10 : Option Addr) (xL10 xC10 : Nat), hcell hv15 hv6.size ((0 + 1) + 1) = some (.slice xA10 xL10 xC10) ∧ ∃ (xA11 : Option Addr) (xL11 xC11 : Nat), hcell hv15 hv6.size (((0 + 1) + 1) + 1) = some (.slice xA11 xL11 xC11) ∧ let hv25 : Heap := hset (hset (hset (hset hv15 hv.size 0 (.slice xA8 xL8 xC8)) hv.size (0 + 1) (.slice xA9 xL9 xC9)) hv.size ((0 + 1) + 1) (.slice xA10 xL10 xC10)) hv.size (((0 + 1) + 1) + 1) (.slice xA11 xL11 xC11)
      R (.tuple #[.agg #[.slice xA8 xL8 xC8, .slice xA9 xL9 xC9, .slice xA10 xL10 xC10, .slice xA11 xL11 xC11], .int .i64 0]) hv25))
theorem calls82 {h : Heap} {R : Value → Heap → Prop} (g : Int) (gA : Option Addr) (gL gC : Nat) (s : Int) (H : S82 g gA gL gC s h R) : CallsH Try.prog 82 #[.agg #[.int .i64 g, .slice gA gL gC], .int .i64 s] h R := by
  have e : S82 g gA gL gC s h R = FX (envX [2, 4, 119] 122) { loops := [(0, ⟨[4, 7, 8, 9, 10], [11], [4], []⟩)], joins := [(101, ⟨[4, 7, 8, 9, 10], [11], [4], []⟩)], blocks := [(1, ⟨[4, 7, 8, 9, 10], [11], [4], []⟩)], draws := [(13, ⟨13, false⟩), (16, ⟨14, false⟩)] } Try.f82 (Try.f82.body.getD .skip) [.agg #[.int .i64 g, .slice gA gL gC], .int .i64 s] h R := by kernel_rfl
  exact calls_of_FX (envX_ok _ _) Try.func82 (by kernel_rfl) (by kernel_rfl) (by kernel_rfl) (e ▸ H)
/-- tracery/walk.Depth -/
def Ok82 (g : Int) (edgesV : List (Int × Int)) (s : Int) (R : List Int → List Int → List Int → List Int → Int → Prop) : Prop :=
  ∀ (h : Heap) (gA : Option Addr) (gL gC : Nat), Hp h [Ck.vw eP gA gL gC edgesV] → CallsH Try.prog 82 #[.agg #[.int .i64 g, .slice gA gL gC], .int .i64 s] h fun v h' => ∃ (orderVA : Option Addr) (orderVL orderVC : Nat) (orderV : List Int) (byVA : Option Addr) (byVL byVC : Nat) (byV : List Int) (farVA : Option Addr) (farVL farVC : Nat) (farV : List Int) (lowVA : Option Addr) (lowVL lowVC : Nat) (lowV : List Int) (rbV : Int), Sy h [] h' [Ck.sl eI 3 orderVA orderVL orderVC orderV, Ck.sl eI 3 byVA byVL byVC byV, Ck.sl eI 3 farVA farVL farVC farV, Ck.sl eI 3 lowVA lowVL lowVC lowV] ∧ v = .tuple #[.agg #[.slice orderVA orderVL orderVC, .slice byVA byVL byVC, .slice farVA farVL farVC, .slice lowVA lowVL lowVC], .int .i64 rbV] ∧ R orderV byV farV lowV rbV
theorem Ok82.mono {g edgesV s} {R R' : List Int → List Int → List Int → List Int → Int → Prop} (H : Ok82 g edgesV s R) (kz : ∀ orderV byV farV lowV rbV, R orderV byV farV lowV rbV → R' orderV byV farV lowV rbV) : Ok82 g edgesV s R' :=
  fun h gA gL gC hp => (H h gA gL gC hp).mono fun _ _ ⟨orderVA, orderVL, orderVC, orderV, byVA, byVL, byVC, byV, farVA, farVL, farVC, farV, lowVA, lowVL, lowVC, lowV, rbV, P, e, q⟩ => ⟨orderVA, orderVL, orderVC, orderV, byVA, byVL, byVC, byV, farVA, farVL, farVC, farV, lowVA, lowVL, lowVC, lowV, rbV, P, e, kz _ _ _ _ _ q⟩
def T82 (g : Int) (edgesV : List (Int × Int)) (s : Int) (R : List Int → List Int → List Int → List Int → Int → Prop) : Prop :=
  Ok174 g edgesV s (fun r =>
  cnd (r != (0 : Int))
    (R ([] : List Int) ([] : List Int) ([] : List Int) ([] : List Int) r)
    (Ok175 g edgesV (fun nV outV =>
    Ok177 g s (fun r_2 r_3 r_4 r_5 =>
    Ok178 g (-1) (fun r_6 =>
    Ok178 g (-1) (fun r_7 =>
    0 ≤ s ∧ s < ((r_7.length : Nat) : Int) ∧ 0 ≤ g ∧ g ≤ 1000000000000 ∧ ∃ (Iv : List Int → List Int → List Int → List Int → List Int → List Int → List Int → Prop) (m : List Int → List Int → List Int → List Int → List Int → List Int → List Int → Nat), Iv ([s] : List Int) (r_7.set (Int.toNat s) 0) (List.replicate (Int.toNat g) (0 : Int)) r_2 r_3 r_4 r_6 ∧
    ∀ path : List Int, ∀ r_9 : List Int, ∀ x_2 : List Int, ∀ y : List Int, ∀ y_2 : List Int, ∀ y_3 : List Int, ∀ y_4 : List Int, Iv path r_9 x_2 y y_2 y_3 y_4 →
    cnd (decide (((path.length : Nat) : Int) > (0 : Int)))
      (∃ Jv : List Int → List Int → List Int → List Int → List Int → List Int → List Int → Prop,
      ( 0 ≤ (IntKind.i64.wrap (((path.length : Nat) : Int) - (1 : Int))) ∧ (IntKind.i64.wrap (((path.length : Nat) : Int) - (1 : Int))) < ((path.length : Nat) : Int) ∧ ∀ path_3 : Int, path[(Int.toNat (IntKind.i64.wrap (((path.length : Nat) : Int) - (1 : Int))))]? = some path_3 → 0 ≤ path_3 ∧ path_3 < (((Int.toNat g) : Nat) : Int) ∧ ∀ x_3 : Int, x_2[(Int.toNat path_3)]? = some x_3 → 0 ≤ path_3 ∧ path_3 < ((outV.length : Nat) : Int) ∧ ∀ x_4 : List Int, outV[(Int.toNat path_3)]? = some x_4 → cnd (x_3 == ((x_4.length : Nat) : Int))
         (Ok179 nV edgesV outV y y_2 y_3 y_4 r_9 path_3 (fun orderV1 byV1 farV1 lowV1 =>
         0 ≤ (IntKind.i64.wrap (((path.length : Nat) : Int) - (1 : Int))) ∧ (IntKind.i64.wrap (((path.length : Nat) : Int) - (1 : Int))) ≤ ((path.length : Nat) : Int) ∧ Jv (path.take (Int.toNat (IntKind.i64.wrap (((path.length : Nat) : Int) - (1 : Int))))) r_9 x_2 orderV1 byV1 farV1 lowV1))
         (0 ≤ x_3 ∧ x_3 < ((x_4.length : Nat) : Int) ∧ ∀ x_5 : Int, x_4[(Int.toNat x_3)]? = some x_5 → 0 ≤ path_3 ∧ path_3 < (((Int.toNat g) : Nat) : Int) ∧ ∀ x_6 : Int, x_2[(Int.toNat path_3)]? = some x_6 → Ok180 nV edgesV outV x_5 (fun r2 =>
         0 ≤ r2 ∧ r2 < ((y_3.length : Nat) : Int) ∧ ∀ x_7 : Int, y_3[(Int.toNat r2)]? = some x_7 → ∃ Jv2 : List Int → List Int → List Int → List Int → List Int → List Int → Prop,
         ( cnd (decide (x_7 < (0 : Int)))
            (0 ≤ r2 ∧ r2 < ((r_7.length : Nat) : Int) ∧ 0 ≤ path_3 ∧ path_3 < ((y_3.length : Nat) : Int) ∧ ∀ x_8 : Int, y_3[(Int.toNat path_3)]? = some x_8 → Ok181 nV edgesV outV y y_2 y_3 y_4 x_5 (IntKind.i64.wrap (x_8 + (1 : Int))) (fun orderV1_2 byV1_2 farV1_2 lowV1_2 =>
            (path.length + 1) < 1000000000000 ∧ Jv2 (path ++ [r2]) (r_9.set (Int.toNat r2) ((y.length : Nat) : Int)) orderV1_2 byV1_2 farV1_2 lowV1_2))
            (Jv2 path r_9 y y_2 y_3 y_4)) ∧
         ∀ path_4 : List Int, ∀ r_9_3 : List Int, ∀ y_9 : List Int, ∀ y_10 : List Int, ∀ y_11 : List Int, ∀ y_12 : List Int, Jv2 path_4 r_9_3 y_9 y_10 y_11 y_12 →
         Jv path_4 r_9_3 (x_2.set (Int.toNat path_3) (IntKind.i64.wrap (x_6 + (1 : Int)))) y_9 y_10 y_11 y_12))) ∧
      ∀ path_2 : List Int, ∀ r_9_2 : List Int, ∀ x_2_2 : List Int, ∀ y_5 : List Int, ∀ y_6 : List Int, ∀ y_7 : List Int, ∀ y_8 : List Int, Jv path_2 r_9_2 x_2_2 y_5 y_6 y_7 y_8 →
      Iv path_2 r_9_2 x_2_2 y_5 y_6 y_7 y_8 ∧ m path_2 r_9_2 x_2_2 y_5 y_6 y_7 y_8 < m path r_9 x_2 y y_2 y_3 y_4)
      (R y y_2 y_3 y_4 0)))))))
theorem ok82 {g edgesV s} {R : List Int → List Int → List Int → List Int → Int → Prop} (T : T82 g edgesV s R) : Ok82 g edgesV s R := by
  intro h gA gL gC H
  have Y : Sy h [] h _ := Sy.startM H rfl
  obtain rfl := Y.lenV 0 rfl
  apply calls82
  unfold S82
  unfold T82 at T
  intro hv
  have Y : Sy _ _ hv [_, _] := Y.junk _
  clear_value hv
  intro hv2
  have Y : Sy _ _ hv2 [_, _, _] := Y.junk _
  clear_value hv2
  refine callX_sy (T _ _ _ _ (Y.pick [0] rfl).hp) (fun _ _ ⟨_, p, _⟩ => p.fr) (allc (fun h => by cases h) (allc (fun h => by cases h) alln)) ?_
  rintro v hv3 ⟨r, PP, rfl, T⟩
  have Y : Sy _ _ hv3 [_, _, _] := Y.gr PP.fr
  clear PP
  refine ⟨r, rfl, ?_⟩
  refine cnd_imp T (fun T => ?_) (fun T => ?_)
  · intro hv4
    have Y : Sy _ _ hv4 [_, _, _] := ((((Y.stJ 2 rfl _ _).stJ 2 rfl _ _).stJ 2 rfl _ _).stJ 2 rfl _ _)
    clear_value hv4
    have Y : Sy _ _ _ [_, _, _, _] := Y.nilS eI 3
    have Y : Sy _ _ _ [_, _, _, _, _] := Y.nilS eI 3
    have Y : Sy _ _ _ [_, _, _, _, _, _] := Y.nilS eI 3
    have Y : Sy _ _ _ [_, _, _, _, _, _, _] := Y.nilS eI 3
    exact ⟨_, _, _, _, _, _, _, _, _, _, _, _, _, _, _, _, _, Y.pick [3, 4, 5, 6] rfl, rfl, T⟩
  · refine callX_sy (T _ _ _ _ (Y.pick [0] rfl).hp) (fun _ _ ⟨_, _, _, _, _, _, _, p, _⟩ => p.fr) (allc (fun h => by cases h) (allc (fun h => by cases h) alln)) ?_
    rintro v2 hv5 ⟨rB_2, nV, outVA, outVL, outVC, outH, outV, PP, rfl, T⟩
    have Y : Sy _ _ hv5 [_, _, _, _, _] := Y.callV PP ⟨rfl, ⟨rfl, trivial⟩⟩
    clear PP
    obtain rfl := Y.lenR 4 rfl
    refine ⟨_, rfl, ?_⟩
    refine callX_sy (T _ (Hp.nil _)) (fun _ _ ⟨_, _, _, _, _, _, _, _, _, _, _, _, _, _, _, _, p, _⟩ => p.fr) (allc (fun h => by cases h) (allc (fun h => by cases h) alln)) ?_
    rintro v3 hv6 ⟨rA, rL, rC, r_2, rA2, rL2, rC2, r_3, rA3, rL3, rC3, r_4, rA4, rL4, rC4, r_5, PP, rfl, T⟩
    have Y : Sy _ _ hv6 [_, _, _, _, _, _, _, _, _] := Y.callV PP ⟨rfl, ⟨rfl, ⟨rfl, ⟨rfl, trivial⟩⟩⟩⟩
    clear PP
    obtain rfl := Y.lenS 5 rfl
    obtain rfl := Y.lenS 6 rfl
    obtain rfl := Y.lenS 7 rfl
    obtain rfl := Y.lenS 8 rfl
    refine ⟨_, _, _, _, _, _, _, _, _, _, _, _, rfl, ?_⟩
    intro hv7
    have Y : Sy _ _ hv7 [_, _, _, _, _, _, _, _, _, _] := Y.newO _
    clear_value hv7
    refine ⟨(Y.neJ 9 2 rfl rfl rfl (by simp [Ck.ob])), (Y.neJ 9 1 rfl rfl rfl (by simp [Ck.ob])), ⟨_, Y.cellO 9 rfl 0 rfl⟩, Y.freeO 9 rfl _, ⟨_, Y.cellO 9 rfl 1 rfl⟩, Y.freeO 9 rfl _, ⟨_, Y.cellO 9 rfl 2 rfl⟩, Y.freeO 9 rfl _, ⟨_, Y.cellO 9 rfl 3 rfl⟩, Y.freeO 9 rfl _, ?_⟩
    intro hv8
    have Y : Sy _ _ hv8 [_, _, _, _, _, _, _, _, _, _] := ((((Y.stO 9 rfl 0 _).stO 9 rfl 1 _).stO 9 rfl 2 _).stO 9 rfl 3 _)
    clear_value hv8
    refine callX_sy (T _ (Hp.nil _)) (fun _ _ ⟨_, _, _, _, p, _⟩ => p.fr) (allc (fun h => by cases h) (allc (fun h => by cases h) alln)) ?_
    rintro v4 hv9 ⟨rA5, rL5, rC5, r_6, PP, rfl, T⟩
    have Y : Sy _ _ hv9 [_, _, _, _, _, _, _, _, _, _, _] := Y.callV PP ⟨rfl, trivial⟩
    clear PP
    obtain rfl := Y.lenS 10 rfl
    refine ⟨_, _, _, rfl, ?_⟩
    refine ⟨(Y.neJ 9 2 rfl rfl rfl (by simp [Ck.ob])), (Y.neJ 9 1 rfl rfl rfl (by simp [Ck.ob])), ⟨_, Y.cellO 9 rfl 3 rfl⟩, Y.freeO 9 rfl _, ?_⟩
    intro hv10
    have Y : Sy _ _ hv10 [_, _, _, _, _, _, _, _, _, _, _] := (Y.stO 9 rfl 3 _)
    clear_value hv10
    refine callX_sy (T _ (Hp.nil _)) (fun _ _ ⟨_, _, _, _, p, _⟩ => p.fr) (allc (fun h => by cases h) (allc (fun h => by cases h) alln)) ?_
    rintro v5 hv11 ⟨rA6, rL6, rC6, r_7, PP, rfl, T⟩
    have Y : Sy _ _ hv11 [_, _, _, _, _, _, _, _, _, _, _, _] := Y.callV PP ⟨rfl, trivial⟩
    clear PP
    obtain rfl := Y.lenS 11 rfl
    refine ⟨_, _, _, rfl, ?_⟩
    obtain ⟨q, q_2, T⟩ := T
    obtain ⟨b_2, hb, ho, r_8, hx⟩ := Y.atS 11 rfl q q_2
    refine ⟨b_2, 0, hb, q, q_2, ?_⟩
    refine ⟨(Y.neJ 11 2 rfl rfl rfl ho), (Y.neJ 11 1 rfl rfl rfl ho), Y.cellEx 11 rfl hb (t := 0) (by omega) (by decide), Y.freeS 11 rfl hb _, ?_⟩
    intro hv12
    have Y : Sy _ _ hv12 [_, _, _, _, _, _, _, _, _, _, _, _] := Y.st1 11 rfl hb 0 (by omega) rfl
    clear_value hv12
    obtain ⟨q_3, q_5, T⟩ := T
    refine ⟨q_3, Int.le_refl _, by omega, by omega, ?_⟩
    intro hv13
    have Y : Sy _ _ hv13 [_, _, _, _, _, _, _, _, _, _, _, _, _] := Y.mkS (E := eI) (ty := 3) (0 : Int) (Int.toNat g) (Int.toNat g) (Nat.le_refl _) (by simp [maxLen]; omega)
    clear_value hv13
    intro hv14
    have Y : Sy _ _ hv14 [_, _, _, _, _, _, _, _, _, _, _, _, _, _] := Y.litS (E := eI) (ty := 3) ([s] : List Int) rfl (by simp [maxLen])
    clear_value hv14
    obtain ⟨Iv, m, T0, T1⟩ := T
    obtain ⟨B, hB, YB⟩ := Y.cut [13, 11, 12, 9, 5, 6, 7, 10] [0, 1, 2, 3, 4, 8] rfl
    obtain ⟨F, hF⟩ := Y.fnS (k := 11) rfl
    obtain ⟨F_2, hF_2⟩ := Y.fnS (k := 12) rfl
    obtain ⟨F_3, hF_3⟩ := Y.fnO (k := 9) [0, 1, 2, 3] rfl
    obtain ⟨JJ, hJJ⟩ : ∃ JJ : Nat → List Value → Heap → Prop, JJ = (fun k lz h' => ∃ (pathA : Option Addr) (pathL pathC : Nat) (path : List Int) (r_9 : List Int) (x_2 : List Int) (cA : Option Addr) (cL cC : Nat) (y : List Int) (cA_2 : Option Addr) (cL_2 cC_2 : Nat) (y_2 : List Int) (cA_3 : Option Addr) (cL_3 cC_3 : Nat) (y_3 : List Int) (cA_4 : Option Addr) (cL_4 cC_4 : Nat) (y_4 : List Int), lz = [.slice pathA pathL pathC] ∧ Sy h [] h' ([Ck.sl eI 3 pathA pathL pathC path, F r_9, F_2 x_2, F_3 [.slice cA cL cC, .slice cA_2 cL_2 cC_2, .slice cA_3 cL_3 cC_3, .slice cA_4 cL_4 cC_4], Ck.sl eI 3 cA cL cC y, Ck.sl eI 3 cA_2 cL_2 cC_2 y_2, Ck.sl eI 3 cA_3 cL_3 cC_3 y_3, Ck.sl eI 3 cA_4 cL_4 cC_4 y_4] ++ B) ∧ Iv path r_9 x_2 y y_2 y_3 y_4 ∧ m path r_9 x_2 y y_2 y_3 y_4 = k) := ⟨_, rfl⟩
    refine ⟨fun lz h' => ∃ k, JJ k lz h', Lm JJ, ?_, ?_⟩
    · subst hJJ hB hF hF_2 hF_3
      exact ⟨_, _, _, _, _, _, _, _, _, _, _, _, _, _, _, _, _, _, _, _, _, _, _, rfl, YB, T0, rfl⟩
    · clear YB T0 Y
      intro pathA pathL pathC hv15 hI
      obtain ⟨k, hI, hm⟩ := loopIn hI
      subst hJJ hB hF hF_2 hF_3
      obtain ⟨pathA, pathL, pathC, path, r_9, x_2, cA, cL, cC, y, cA_2, cL_2, cC_2, y_2, cA_3, cL_3, cC_3, y_3, cA_4, cL_4, cC_4, y_4, e, Y, T, rfl⟩ := hI
      cases e
      obtain rfl := Y.lenS 0 rfl
      obtain rfl := Y.lenS 4 rfl
      obtain rfl := Y.lenS 5 rfl
      obtain rfl := Y.lenS 6 rfl
      obtain rfl := Y.lenS 7 rfl
      replace T := T1 path r_9 x_2 y y_2 y_3 y_4 T
      have Y : Sy _ _ _ [_, _, _, _, _, _, _, _, _, _, _, _, _, _] := Y
      refine cnd_imp T (fun T => ?_) (fun T => ?_)
      · obtain ⟨Jv, T0, T1⟩ := T
        obtain ⟨B_2, hB_2, _⟩ := Y.cut [] [8, 9, 10, 11, 12, 13] rfl
        obtain ⟨F_4, hF_4⟩ := Y.fnS (k := 1) rfl
        obtain ⟨F_5, hF_5⟩ := Y.fnS (k := 2) rfl
        obtain ⟨F_6, hF_6⟩ := Y.fnO (k := 3) [0, 1, 2, 3] rfl
        refine ⟨fun lz h' => ∃ (pathA3 : Option Addr) (pathL3 pathC3 : Nat) (path_2 : List Int) (r_9_2 : List Int) (x_2_2 : List Int) (cA_5 : Option Addr) (cL_5 cC_5 : Nat) (y_5 : List Int) (cA_6 : Option Addr) (cL_6 cC_6 : Nat) (y_6 : List Int) (cA_7 : Option Addr) (cL_7 cC_7 : Nat) (y_7 : List Int) (cA_8 : Option Addr) (cL_8 cC_8 : Nat) (y_8 : List Int), lz = [.slice pathA3 pathL3 pathC3] ∧ Sy h [] h' ([Ck.sl eI 3 pathA3 pathL3 pathC3 path_2, F_4 r_9_2, F_5 x_2_2, F_6 [.slice cA_5 cL_5 cC_5, .slice cA_6 cL_6 cC_6, .slice cA_7 cL_7 cC_7, .slice cA_8 cL_8 cC_8], Ck.sl eI 3 cA_5 cL_5 cC_5 y_5, Ck.sl eI 3 cA_6 cL_6 cC_6 y_6, Ck.sl eI 3 cA_7 cL_7 cC_7 y_7, Ck.sl eI 3 cA_8 cL_8 cC_8 y_8] ++ B_2) ∧ Jv path_2 r_9_2 x_2_2 y_5 y_6 y_7 y_8, ?_, ?_⟩
        · subst hB_2 hF_4 hF_5 hF_6
          replace T := T0
          clear T0 T1
          obtain ⟨q_6, q_7, T⟩ := T
          obtain ⟨b_3, hb_2, ho_2, path_3, hx_2⟩ := Y.atS 0 rfl q_6 q_7
          refine ⟨b_3, 0, hb_2, q_6, q_7, ?_⟩
          replace T := T path_3 hx_2
          refine ⟨_, Y.cellS 0 rfl hb_2 (t := 0) hx_2 rfl, ?_⟩
          have Y0 := Y
          have F : Fr [] hv15 hv15 := Fr.refl _ _
          obtain ⟨q_8, q_9, T⟩ := T
          obtain ⟨b_4, hb_3, ho_3, x_3, hx_3⟩ := Y0.atS 2 rfl q_8 q_9
          refine ⟨b_4, 0, hb_3, q_8, q_9, ?_⟩
          replace T := T x_3 hx_3
          refine ⟨_, Y0.cellS 2 rfl hb_3 (t := 0) hx_3 rfl, ?_⟩
          refine ⟨rB_2, 0, rfl, ?_⟩
          refine ⟨_, _, _, Y0.cellO 11 rfl 2 rfl, ?_⟩
          obtain ⟨q_10, q_11, T⟩ := T
          obtain ⟨b_5, hb_4, ho_4, x_4, hx_4, r_10, hr⟩ := Y0.atR 12 rfl q_10 q_11
          refine ⟨b_5, 0, hb_4, q_10, q_11, ?_⟩
          replace T := T x_4 hx_4
          refine ⟨_, _, _, Y0.cellR 12 rfl hb_4 hr hx_4, ?_⟩
          refine cnd_imp T (fun T => ?_) (fun T => ?_)
          · refine callX_sy (T _ _ _ _ _ _ _ _ _ _ _ _ _ _ _ _ _ _ _ _ _ _ _ _ _ _ ((((Y.turn 11 rfl To.obvob).turn 12 rfl To.rowsv).turn 1 rfl To.slvw).pick [11, 8, 12, 3, 4, 5, 6, 7, 1] rfl).hp) (fun _ _ ⟨_, _, _, _, _, _, _, _, _, _, _, _, _, _, _, _, p, _⟩ => p.fr) (allc (Y.nO 10 [3, 4, 5, 6, 7] rfl rfl) alln) ?_
            rintro v6 hv16 ⟨orderVA2, orderVL2, orderVC2, orderV1, byVA2, byVL2, byVC2, byV1, farVA2, farVL2, farVC2, farV1, lowVA2, lowVL2, lowVC2, lowV1, PP, rfl, T⟩
            have Y : Sy _ _ hv16 [_, _, _, _, _, _, _, _, _, _, _, _, _, _] := Y.call2 [3, 4, 5, 6, 7, 0, 1, 2, 8, 9, 10, 11, 12, 13] rfl (A := [_, _, _, _, _]) rfl rfl PP ⟨rfl, ⟨rfl, ⟨rfl, ⟨rfl, ⟨rfl, trivial⟩⟩⟩⟩⟩
            clear PP
            obtain rfl := Y.lenS 1 rfl
            obtain rfl := Y.lenS 2 rfl
            obtain rfl := Y.lenS 3 rfl
            obtain rfl := Y.lenS 4 rfl
            refine ⟨rfl, ?_⟩
            obtain ⟨q_12, q_13, T⟩ := T
            refine ⟨q_12, (by have := (Y.capS 5 rfl).1; omega), ?_⟩
            try rw [slice0]
            have Y : Sy _ _ _ [_, _, _, _, _, _, _, _, _, _, _, _, _, _] := Y.shrS 5 rfl (Int.toNat (IntKind.i64.wrap (((path.length : Nat) : Int) - (1 : Int)))) (by omega)
            exact ⟨_, _, _, _, _, _, _, _, _, _, _, _, _, _, _, _, _, _, _, _, _, _, rfl, Y.pick [5, 6, 7, 0, 1, 2, 3, 4, 8, 9, 10, 11, 12, 13] rfl, T⟩
          · have Y0 := Y
            have F : Fr [] hv15 hv15 := Fr.refl _ _
            refine ⟨rB_2, 0, rfl, ?_⟩
            refine ⟨_, _, _, Y0.cellO 11 rfl 2 rfl, ?_⟩
            refine ⟨b_5, 0, hb_4, q_10, q_11, ?_⟩
            refine ⟨_, _, _, Y0.cellR 12 rfl hb_4 hr hx_4, ?_⟩
            refine ⟨b_4, 0, hb_3, q_8, q_9, ?_⟩
            refine ⟨_, Y0.cellS 2 rfl hb_3 (t := 0) hx_3 rfl, ?_⟩
            obtain ⟨q_14, q_15, T⟩ := T
            obtain ⟨b_6, hb_5, ho_5, x_5, hx_5⟩ := Y0.atRow 12 rfl hr hx_4 q_14 q_15
            refine ⟨b_6, 0, hb_5, q_14, q_15, ?_⟩
            replace T := T x_5 hx_5
            refine ⟨_, Y0.cellRow 12 rfl hr hx_4 hb_5 (t := 0) hx_5 rfl, ?_⟩
            obtain ⟨q_16, q_17, T⟩ := T
            obtain ⟨b_7, hb_6, ho_6, x_6, hx_6⟩ := Y.atS 2 rfl q_16 q_17
            refine ⟨b_7, 0, hb_6, q_16, q_17, ?_⟩
            replace T := T x_6 hx_6
            refine ⟨_, Y.cellS 2 rfl hb_6 (t := 0) hx_6 rfl, ?_⟩
            refine ⟨b_7, 0, hb_6, q_16, q_17, ?_⟩
            refine ⟨(Y.neJ 2 10 rfl rfl rfl ho_6), Y.cellEx 2 rfl hb_6 (t := 0) (by omega) (by decide), Y.freeS 2 rfl hb_6 _, ?_⟩
            intro hv17
            have Y : Sy _ _ hv17 [_, _, _, _, _, _, _, _, _, _, _, _, _, _] := Y.st1 2 rfl hb_6 (IntKind.i64.wrap (x_6 + (1 : Int))) (by omega) rfl
            clear_value hv17
            refine callX_sy (T _ _ _ _ _ _ _ _ _ _ (((Y.turn 11 rfl To.obvob).turn 12 rfl To.rowsv).pick [11, 8, 12] rfl).hp) (fun _ _ ⟨_, p, _⟩ => p.fr) (allc (fun h => by cases h) alln) ?_
            rintro v7 hv18 ⟨r2, PP, rfl, T⟩
            have Y : Sy _ _ hv18 [_, _, _, _, _, _, _, _, _, _, _, _, _, _] := Y.gr PP.fr
            clear PP
            refine ⟨r2, rfl, ?_⟩
            refine ⟨_, _, _, Y.cellO 3 rfl 2 rfl, ?_⟩
            obtain ⟨q_18, q_19, T⟩ := T
            obtain ⟨b_8, hb_7, ho_7, x_7, hx_7⟩ := Y.atS 6 rfl q_18 q_19
            refine ⟨b_8, 0, hb_7, q_18, q_19, ?_⟩
            replace T := T x_7 hx_7
            refine ⟨_, Y.cellS 6 rfl hb_7 (t := 0) hx_7 rfl, ?_⟩
            obtain ⟨Jv2, T0, T1⟩ := T
            obtain ⟨B_3, hB_3, _⟩ := Y.cut [] [2, 8, 9, 10, 11, 12, 13] rfl
            obtain ⟨F_7, hF_7⟩ := Y.fnS (k := 1) rfl
            obtain ⟨F_8, hF_8⟩ := Y.fnO (k := 3) [0, 1, 2, 3] rfl
            refine ⟨fun lz h' => ∃ (pathA2 : Option Addr) (pathL2 pathC2 : Nat) (path_4 : List Int) (r_9_3 : List Int) (cA_9 : Option Addr) (cL_9 cC_9 : Nat) (y_9 : List Int) (cA_10 : Option Addr) (cL_10 cC_10 : Nat) (y_10 : List Int) (cA_11 : Option Addr) (cL_11 cC_11 : Nat) (y_11 : List Int) (cA_12 : Option Addr) (cL_12 cC_12 : Nat) (y_12 : List Int), lz = [.slice pathA2 pathL2 pathC2] ∧ Sy h [] h' ([Ck.sl eI 3 pathA2 pathL2 pathC2 path_4, F_7 r_9_3, F_8 [.slice cA_9 cL_9 cC_9, .slice cA_10 cL_10 cC_10, .slice cA_11 cL_11 cC_11, .slice cA_12 cL_12 cC_12], Ck.sl eI 3 cA_9 cL_9 cC_9 y_9, Ck.sl eI 3 cA_10 cL_10 cC_10 y_10, Ck.sl eI 3 cA_11 cL_11 cC_11 y_11, Ck.sl eI 3 cA_12 cL_12 cC_12 y_12] ++ B_3) ∧ Jv2 path_4 r_9_3 y_9 y_10 y_11 y_12, ?_, ?_⟩
            · subst hB_3 hF_7 hF_8
              replace T := T0
              clear T0 T1
              refine cnd_imp T (fun T => ?_) (fun T => ?_)
              · refine ⟨_, _, _, Y.cellO 3 rfl 0 rfl, ?_⟩
                obtain ⟨q_20, q_21, T⟩ := T
                obtain ⟨b_9, hb_8, ho_8, r_11, hx_8⟩ := Y.atS 1 rfl q_20 q_21
                refine ⟨b_9, 0, hb_8, q_20, q_21, ?_⟩
                refine ⟨(Y.neJ 1 10 rfl rfl rfl ho_8), Y.cellEx 1 rfl hb_8 (t := 0) (by omega) (by decide), Y.freeS 1 rfl hb_8 _, ?_⟩
                intro hv19
                have Y : Sy _ _ hv19 [_, _, _, _, _, _, _, _, _, _, _, _, _, _] := Y.st1 1 rfl hb_8 ((y.length : Nat) : Int) (by omega) rfl
                clear_value hv19
                refine ⟨_, _, _, Y.cellO 3 rfl 2 rfl, ?_⟩
                obtain ⟨q_22, q_23, T⟩ := T
                obtain ⟨b_10, hb_9, ho_9, x_8, hx_9⟩ := Y.atS 6 rfl q_22 q_23
                refine ⟨b_10, 0, hb_9, q_22, q_23, ?_⟩
                replace T := T x_8 hx_9
                refine ⟨_, Y.cellS 6 rfl hb_9 (t := 0) hx_9 rfl, ?_⟩
                refine callX_sy (T _ _ _ _ _ _ _ _ _ _ _ _ _ _ _ _ _ _ _ _ _ _ _ (((Y.turn 11 rfl To.obvob).turn 12 rfl To.rowsv).pick [11, 8, 12, 3, 4, 5, 6, 7] rfl).hp) (fun _ _ ⟨_, _, _, _, _, _, _, _, _, _, _, _, _, _, _, _, p, _⟩ => p.fr) (allc (Y.nO 10 [3, 4, 5, 6, 7] rfl rfl) alln) ?_
                rintro v8 hv20 ⟨orderVA2_2, orderVL2_2, orderVC2_2, orderV1_2, byVA2_2, byVL2_2, byVC2_2, byV1_2, farVA2_2, farVL2_2, farVC2_2, farV1_2, lowVA2_2, lowVL2_2, lowVC2_2, lowV1_2, PP, rfl, T⟩
                have Y : Sy _ _ hv20 [_, _, _, _, _, _, _, _, _, _, _, _, _, _] := Y.call2 [3, 4, 5, 6, 7, 0, 1, 2, 8, 9, 10, 11, 12, 13] rfl (A := [_, _, _, _, _]) rfl rfl PP ⟨rfl, ⟨rfl, ⟨rfl, ⟨rfl, ⟨rfl, trivial⟩⟩⟩⟩⟩
                clear PP
                obtain rfl := Y.lenS 1 rfl
                obtain rfl := Y.lenS 2 rfl
                obtain rfl := Y.lenS 3 rfl
                obtain rfl := Y.lenS 4 rfl
                refine ⟨rfl, ?_⟩
                intro hv21
                have Y : Sy _ _ hv21 [_, _, _, _, _, _, _, _, _, _, _, _, _, _, _] := Y.junk _
                clear_value hv21
                obtain ⟨q_24, T⟩ := T
                refine ⟨_, Y.ownS 5 rfl, (allc (Y.nJ 5 14 rfl rfl rfl) (allc (Y.nJ 5 10 rfl rfl rfl) alln)), by first | exact appB q_24 (by decide) | omega, by first | exact appM q_24 | (simp [maxLen]; omega), ?_⟩
                intro sA sC hv22 ow fA gA gB
                have Y : Sy _ _ hv22 [_, _, _, _, _, _, _, _, _, _, _, _, _, _, _] := Y.appS 5 rfl ([r2] : List Int) ow fA gA rfl rfl
                exact ⟨_, _, _, _, _, _, _, _, _, _, _, _, _, _, _, _, _, _, _, _, _, rfl, Y.pick [5, 6, 0, 1, 2, 3, 4, 7, 8, 9, 10, 11, 12, 13] rfl, T⟩
              · exact ⟨_, _, _, _, _, _, _, _, _, _, _, _, _, _, _, _, _, _, _, _, _, rfl, Y.pick [0, 1, 3, 4, 5, 6, 7, 2, 8, 9, 10, 11, 12, 13] rfl, T⟩
            · subst hB_3 hF_7 hF_8
              clear T0 Y
              rintro pathA2 pathL2 pathC2 hv23 ⟨pathA2, pathL2, pathC2, path_4, r_9_3, cA_9, cL_9, cC_9, y_9, cA_10, cL_10, cC_10, y_10, cA_11, cL_11, cC_11, y_11, cA_12, cL_12, cC_12, y_12, e, Y, T⟩
              cases e
              obtain rfl := Y.lenS 0 rfl
              obtain rfl := Y.lenS 3 rfl
              obtain rfl := Y.lenS 4 rfl
              obtain rfl := Y.lenS 5 rfl
              obtain rfl := Y.lenS 6 rfl
              replace T := T1 path_4 r_9_3 y_9 y_10 y_11 y_12 T
              have Y : Sy _ _ _ [_, _, _, _, _, _, _, _, _, _, _, _, _, _] := Y
              exact ⟨_, _, _, _, _, _, _, _, _, _, _, _, _, _, _, _, _, _, _, _, _, _, rfl, Y.pick [0, 1, 7, 2, 3, 4, 5, 6, 8, 9, 10, 11, 12, 13] rfl, T⟩
        · subst hB_2 hF_4 hF_5 hF_6
          clear T0 Y
          rintro pathA3 pathL3 pathC3 hv24 ⟨pathA3, pathL3, pathC3, path_2, r_9_2, x_2_2, cA_5, cL_5, cC_5, y_5, cA_6, cL_6, cC_6, y_6, cA_7, cL_7, cC_7, y_7, cA_8, cL_8, cC_8, y_8, e, Y, T⟩
          cases e
          obtain rfl := Y.lenS 0 rfl
          obtain rfl := Y.lenS 4 rfl
          obtain rfl := Y.lenS 5 rfl
          obtain rfl := Y.lenS 6 rfl
          obtain rfl := Y.lenS 7 rfl
          replace T := T1 path_2 r_9_2 x_2_2 y_5 y_6 y_7 y_8 T
          have Y : Sy _ _ _ [_, _, _, _, _, _, _, _, _, _, _, _, _, _] := Y
          exact loopBack hm ⟨_, _, _, _, _, _, _, _, _, _, _, _, _, _, _, _, _, _, _, _, _, _, rfl, Y.pick [0, 1, 2, 3, 4, 5, 6, 7, 8, 9, 10, 11, 12, 13] rfl, T.1, rfl⟩ T.2
      · refine ⟨_, _, _, Y.cellO 3 rfl 0 rfl, ?_⟩
        refine ⟨_, _, _, Y.cellO 3 rfl 1 rfl, ?_⟩
        refine ⟨_, _, _, Y.cellO 3 rfl 2 rfl, ?_⟩
        refine ⟨_, _, _, Y.cellO 3 rfl 3 rfl, ?_⟩
        intro hv25
        have Y : Sy _ _ hv25 [_, _, _, _, _, _, _, _, _, _, _, _, _, _] := ((((Y.stJ 10 rfl _ _).stJ 10 rfl _ _).stJ 10 rfl _ _).stJ 10 rfl _ _)
        clear_value hv25
        exact ⟨_, _, _, _, _, _, _, _, _, _, _, _, _, _, _, _, _, Y.pick [4, 5, 6, 7] rfl, rfl, T⟩
/-- tracery/walk.Parts -/
def S83 (g : Int) (gA : Option Addr) (gL gC : Nat) (h : Heap) (R : Value → Heap → Prop) : Prop :=
  let hv : Heap := h.push (.cells #[.int .i64 g, .slice gA gL gC] 26)
  callX Try.prog 140 #[.agg #[.int .i64 g, .slice gA gL gC]] hv [h.size] fun v hv2 =>
  ∃ r : Bool, v = .bool r ∧
  cnd (!r)
    (R (.tuple #[.slice none 0 0, .int .i64 0, .int .i64 1]) hv2)
    (callX Try.prog 175 #[.agg #[.int .i64 g, .slice gA gL gC]] hv2 [h.size] fun v2 hv3 =>
    ∃ rP : Option Addr, v2 = .pointer rP ∧
    callX Try.prog 178 #[.int .i64 g, .int .i64 (-1)] hv3 [h.size] fun v3 hv4 =>
    ∃ (rA : Option Addr) (rL rC : Nat), v3 = .slice rA rL rC ∧
    ∃ (Iv : List Value → Heap → Prop) (m : List Value → Heap → Nat), Iv [.int .i64 0, .int .i64 0] hv4 ∧ -- loop 0: ['n', '21']
    ∀ n : Int, ∀ x : Int, ∀ hv5, Iv [.int .i64 n, .int .i64 x] hv5 →
    cnd (decide (x < ((rL : Nat) : Int)))
      (∃ Jv : List Value → Heap → Prop, -- block 1 ['n']
      ( ∃ b o, rA = some ⟨b, o, none⟩ ∧ 0 ≤ x ∧ x < (rL : Nat) ∧ ∃ x2 : Int, hcell hv5 b (o + (Int.toNat x) * 1) = some (.int .i64 x2) ∧ cnd (decide (x2 ≥ (0 : Int)))
         (Jv [.int .i64 n] hv5)
         (callX Try.prog 176 #[.pointer rP, .int .i64 x] hv5 [] fun v4 hv6 =>
         ∃ (rA2 : Option Addr) (rL2 rC2 : Nat), ∃ (rA3 : Option Addr) (rL3 rC3 : Nat), ∃ (rA4 : Option Addr) (rL4 rC4 : Nat), ∃ (rA5 : Option Addr) (rL5 rC5 : Nat), v4 = .agg #[.slice rA2 rL2 rC2, .slice rA3 rL3 rC3, .slice rA4 rL4 rC4, .slice rA5 rL5 rC5] ∧
         ∃ (Iv2 : List Value → Heap → Prop) (m2 : List Value → Heap → Nat), Iv2 [.int .i64 0] hv6 ∧ -- loop 2: ['34']
         ∀ x3 : Int, ∀ hv7, Iv2 [.int .i64 x3] hv7 →
         cnd (decide (x3 < ((rL2 : Nat) : Int)))
           (∃ b2 o2, rA2 = some ⟨b2, o2, none⟩ ∧ 0 ≤ x3 ∧ x3 < (rL2 : Nat) ∧ ∃ x4 : Int, hcell hv7 b2 (o2 + (Int.toNat x3) * 1) = some (.int .i64 x4) ∧ ∃ b3 o3, rA = some ⟨b3, o3, none⟩ ∧ 0 ≤ x4 ∧ x4 < (rL : Nat) ∧ (∃ u, hcell hv7 b3 (o3 + (Int.toNat x4) * 1) = some u) ∧ hfree hv7 b3 (o3 + (Int.toNat x4) * 1) = true ∧ let hv8 : Heap := hset hv7 b3 (o3 + (Int.toNat x4) * 1) (.int .i64 n)
           Iv2 [.int .i64 (IntKind.i64.wrap (x3 + (1 : Int)))] hv8 ∧ m2 [.int .i64 (IntKind.i64.wrap (x3 + (1 : Int)))] hv8 < m2 [.int .i64 x3] hv7)
           (Jv [.int .i64 (IntKind.i64.wrap (n + (1 : Int)))] hv7))) ∧
      ∀ n2 : Int, ∀ hv9, Jv [.int .i64 n2] hv9 →
      Iv [.int .i64 n2, .int .i64 (IntKind.i64.wrap (x + (1 : Int)))] hv9 ∧ m [.int .i64 n2, .int .i64 (IntKind.i64.wrap (x + (1 : Int)))] hv9 < m [.int .i64 n, .int .i64 x] hv5)
      (R (.tuple #[.slice rA rL rC, .int .i64 n, .int .i64 0]) hv5))
theorem calls83 {h : Heap} {R : Value → Heap → Prop} (g : Int) (gA : Option Addr) (gL gC : Nat) (H : S83 g gA gL gC h R) : CallsH Try.prog 83 #[.agg #[.int .i64 g, .slice gA gL gC]] h R := by
  have e : S83 g gA gL gC h R = FX (envX [1] 48) { loops := [(0, ⟨[5, 6, 20], [7, 21], [], []⟩), (2, ⟨[5, 6, 7, 20, 21, 32, 33], [34], [], []⟩)], joins := [], blocks := [(1, ⟨[5, 6, 20, 21], [7], [], []⟩)], draws := [] } Try.f83 (Try.f83.body.getD .skip) [.agg #[.int .i64 g, .slice gA gL gC]] h R := by kernel_rfl
  exact calls_of_FX (envX_ok _ _) Try.func83 (by kernel_rfl) (by kernel_rfl) (by kernel_rfl) (e ▸ H)
/-- tracery/walk.Parts -/
def Ok83 (g : Int) (edgesV : List (Int × Int)) (R : List Int → Int → Int → Prop) : Prop :=
  ∀ (h : Heap) (gA : Option Addr) (gL gC : Nat), Hp h [Ck.vw eP gA gL gC edgesV] → CallsH Try.prog 83 #[.agg #[.int .i64 g, .slice gA gL gC]] h fun v h' => ∃ (raVA : Option Addr) (raVL raVC : Nat) (raV : List Int) (rbV : Int) (rcV : Int), Sy h [] h' [Ck.sl eI 3 raVA raVL raVC raV] ∧ v = .tuple #[.slice raVA raVL raVC, .int .i64 rbV, .int .i64 rcV] ∧ R raV rbV rcV
theorem Ok83.mono {g edgesV} {R R' : List Int → Int → Int → Prop} (H : Ok83 g edgesV R) (kz : ∀ raV rbV rcV, R raV rbV rcV → R' raV rbV rcV) : Ok83 g edgesV R' :=
  fun h gA gL gC hp => (H h gA gL gC hp).mono fun _ _ ⟨raVA, raVL, raVC, raV, rbV, rcV, P, e, q⟩ => ⟨raVA, raVL, raVC, raV, rbV, rcV, P, e, kz _ _ _ q⟩
def T83 (g : Int) (edgesV : List (Int × Int)) (R : List Int → Int → Int → Prop) : Prop :=
  Ok140 g edgesV (fun r =>
  cnd (!r)
    (R ([] : List Int) 0 1)
    (Ok175 g edgesV (fun nV outV =>
    Ok178 g (-1) (fun r_2 =>
    ∃ (Iv : Int → Int → List Int → Prop) (m : Int → Int → List Int → Nat), Iv 0 0 r_2 ∧
    ∀ n : Int, ∀ x : Int, ∀ r_2_2 : List Int, Iv n x r_2_2 →
    cnd (decide (x < ((r_2.length : Nat) : Int)))
      (∃ Jv : Int → List Int → Prop,
      ( 0 ≤ x ∧ x < ((r_2.length : Nat) : Int) ∧ ∀ r_3 : Int, r_2_2[(Int.toNat x)]? = some r_3 → cnd (decide (r_3 ≥ (0 : Int)))
         (Jv n r_2_2)
         (Ok176 nV edgesV outV x (fun r_4 r_5 r_6 r_7 =>
         ∃ (Iv2 : Int → List Int → Prop) (m2 : Int → List Int → Nat), Iv2 0 r_2_2 ∧
         ∀ x3 : Int, ∀ r_2_2_3 : List Int, Iv2 x3 r_2_2_3 →
         cnd (decide (x3 < ((r_4.length : Nat) : Int)))
           (0 ≤ x3 ∧ x3 < ((r_4.length : Nat) : Int) ∧ ∀ r_8 : Int, r_4[(Int.toNat x3)]? = some r_8 → 0 ≤ r_8 ∧ r_8 < ((r_2.length : Nat) : Int) ∧ Iv2 (IntKind.i64.wrap (x3 + (1 : Int))) (r_2_2_3.set (Int.toNat r_8) n) ∧ m2 (IntKind.i64.wrap (x3 + (1 : Int))) (r_2_2_3.set (Int.toNat r_8) n) < m2 x3 r_2_2_3)
           (Jv (IntKind.i64.wrap (n + (1 : Int))) r_2_2_3)))) ∧
      ∀ n2 : Int, ∀ r_2_2_2 : List Int, Jv n2 r_2_2_2 →
      Iv n2 (IntKind.i64.wrap (x + (1 : Int))) r_2_2_2 ∧ m n2 (IntKind.i64.wrap (x + (1 : Int))) r_2_2_2 < m n x r_2_2)
      (R r_2_2 n 0)))))
theorem ok83 {g edgesV} {R : List Int → Int → Int → Prop} (T : T83 g edgesV R) : Ok83 g edgesV R := by
  intro h gA gL gC H
  have Y : Sy h [] h _ := Sy.startM H rfl
  obtain rfl := Y.lenV 0 rfl
  apply calls83
  unfold S83
  unfold T83 at T
  intro hv
  have Y : Sy _ _ hv [_, _] := Y.junk _
  clear_value hv
  refine callX_sy (T _ _ _ _ (Y.pick [0] rfl).hp) (fun _ _ ⟨_, p, _⟩ => p.fr) (allc (fun h => by cases h) alln) ?_
  rintro v hv2 ⟨r, PP, rfl, T⟩
  have Y : Sy _ _ hv2 [_, _] := Y.gr PP.fr
  clear PP
  refine ⟨r, rfl, ?_⟩
  refine cnd_imp T (fun T => ?_) (fun T => ?_)
  · have Y : Sy _ _ _ [_, _, _] := Y.nilS eI 3
    exact ⟨_, _, _, _, _, _, Y.pick [2] rfl, rfl, T⟩
  · refine callX_sy (T _ _ _ _ (Y.pick [0] rfl).hp) (fun _ _ ⟨_, _, _, _, _, _, _, p, _⟩ => p.fr) (allc (fun h => by cases h) alln) ?_
    rintro v2 hv3 ⟨rB_2, nV, outVA, outVL, outVC, outH, outV, PP, rfl, T⟩
    have Y : Sy _ _ hv3 [_, _, _, _] := Y.callV PP ⟨rfl, ⟨rfl, trivial⟩⟩
    clear PP
    obtain rfl := Y.lenR 3 rfl
    refine ⟨_, rfl, ?_⟩
    refine callX_sy (T _ (Hp.nil _)) (fun _ _ ⟨_, _, _, _, p, _⟩ => p.fr) (allc (fun h => by cases h) alln) ?_
    rintro v3 hv4 ⟨rA, rL, rC, r_2, PP, rfl, T⟩
    have Y : Sy _ _ hv4 [_, _, _, _, _] := Y.callV PP ⟨rfl, trivial⟩
    clear PP
    obtain rfl := Y.lenS 4 rfl
    refine ⟨_, _, _, rfl, ?_⟩
    obtain ⟨Iv, m, T0, T1⟩ := T
    obtain ⟨B, hB, YB⟩ := Y.cut [4] [0, 1, 2, 3] rfl
    obtain ⟨F, hF⟩ := Y.fnS (k := 4) rfl
    obtain ⟨JJ, hJJ⟩ : ∃ JJ : Nat → List Value → Heap → Prop, JJ = (fun k lz h' => ∃ (n : Int) (x : Int) (r_2_2 : List Int), lz = [.int .i64 n, .int .i64 x] ∧ Sy h [] h' ([F r_2_2] ++ B) ∧ Iv n x r_2_2 ∧ m n x r_2_2 = k) := ⟨_, rfl⟩
    refine ⟨fun lz h' => ∃ k, JJ k lz h', Lm JJ, ?_, ?_⟩
    · subst hJJ hB hF
      exact ⟨_, _, _, _, rfl, YB, T0, rfl⟩
    · clear YB T0 Y
      intro n x hv5 hI
      obtain ⟨k, hI, hm⟩ := loopIn hI
      subst hJJ hB hF
      obtain ⟨n, x, r_2_2, e, Y, T, rfl⟩ := hI
      cases e
      replace T := T1 n x r_2_2 T
      have Y : Sy _ _ _ [_, _, _, _, _] := Y
      refine cnd_imp T (fun T => ?_) (fun T => ?_)
      · obtain ⟨Jv, T0, T1⟩ := T
        obtain ⟨B_2, hB_2, _⟩ := Y.cut [] [1, 2, 3, 4] rfl
        obtain ⟨F_2, hF_2⟩ := Y.fnS (k := 0) rfl
        refine ⟨fun lz h' => ∃ (n2 : Int) (r_2_2_2 : List Int), lz = [.int .i64 n2] ∧ Sy h [] h' ([F_2 r_2_2_2] ++ B_2) ∧ Jv n2 r_2_2_2, ?_, ?_⟩
        · subst hB_2 hF_2
          replace T := T0
          clear T0 T1
          obtain ⟨q, q_2, T⟩ := T
          obtain ⟨b_2, hb, ho, r_3, hx⟩ := Y.atS 0 rfl q q_2
          refine ⟨b_2, 0, hb, q, q_2, ?_⟩
          replace T := T r_3 hx
          refine ⟨_, Y.cellS 0 rfl hb (t := 0) hx rfl, ?_⟩
          refine cnd_imp T (fun T => ?_) (fun T => ?_)
          · exact ⟨_, _, rfl, Y.pick [0, 1, 2, 3, 4] rfl, T⟩
          · refine callX_sy (T _ _ _ _ _ _ _ _ _ _ (((Y.turn 3 rfl To.obvob).turn 4 rfl To.rowsv).pick [3, 1, 4] rfl).hp) (fun _ _ ⟨_, _, _, _, _, _, _, _, _, _, _, _, _, _, _, _, p, _⟩ => p.fr) alln ?_
            rintro v4 hv6 ⟨rA2, rL2, rC2, r_4, rA3, rL3, rC3, r_5, rA4, rL4, rC4, r_6, rA5, rL5, rC5, r_7, PP, rfl, T⟩
            have Y : Sy _ _ hv6 [_, _, _, _, _, _, _, _, _] := Y.callV PP ⟨rfl, ⟨rfl, ⟨rfl, ⟨rfl, trivial⟩⟩⟩⟩
            clear PP
            obtain rfl := Y.lenS 5 rfl
            obtain rfl := Y.lenS 6 rfl
            obtain rfl := Y.lenS 7 rfl
            obtain rfl := Y.lenS 8 rfl
            refine ⟨_, _, _, _, _, _, _, _, _, _, _, _, rfl, ?_⟩
            obtain ⟨Iv2, m2, T0, T1⟩ := T
            obtain ⟨B_3, hB_3, YB⟩ := Y.cut [0] [1, 2, 3, 4, 5, 6, 7, 8] rfl
            obtain ⟨F_3, hF_3⟩ := Y.fnS (k := 0) rfl
            obtain ⟨JJ_2, hJJ_2⟩ : ∃ JJ_2 : Nat → List Value → Heap → Prop, JJ_2 = (fun k_2 lz h' => ∃ (x3 : Int) (r_2_2_3 : List Int), lz = [.int .i64 x3] ∧ Sy h [] h' ([F_3 r_2_2_3] ++ B_3) ∧ Iv2 x3 r_2_2_3 ∧ m2 x3 r_2_2_3 = k_2) := ⟨_, rfl⟩
            refine ⟨fun lz h' => ∃ k_2, JJ_2 k_2 lz h', Lm JJ_2, ?_, ?_⟩
            · subst hJJ_2 hB_3 hF_3
              exact ⟨_, _, _, rfl, YB, T0, rfl⟩
            · clear YB T0 Y
              intro x3 hv7 hI
              obtain ⟨k_2, hI, hm_2⟩ := loopIn hI
              subst hJJ_2 hB_3 hF_3
              obtain ⟨x3, r_2_2_3, e, Y, T, rfl⟩ := hI
              cases e
              replace T := T1 x3 r_2_2_3 T
              have Y : Sy _ _ _ [_, _, _, _, _, _, _, _, _] := Y
              refine cnd_imp T (fun T => ?_) (fun T => ?_)
              · obtain ⟨q_3, q_4, T⟩ := T
                obtain ⟨b_3, hb_2, ho_2, r_8, hx_2⟩ := Y.atS 5 rfl q_3 q_4
                refine ⟨b_3, 0, hb_2, q_3, q_4, ?_⟩
                replace T := T r_8 hx_2
                refine ⟨_, Y.cellS 5 rfl hb_2 (t := 0) hx_2 rfl, ?_⟩
                obtain ⟨q_5, q_6, T⟩ := T
                obtain ⟨b_4, hb_3, ho_3, r_9, hx_3⟩ := Y.atS 0 rfl q_5 q_6
                refine ⟨b_4, 0, hb_3, q_5, q_6, ?_⟩
                refine ⟨Y.cellEx 0 rfl hb_3 (t := 0) (by omega) (by decide), Y.freeS 0 rfl hb_3 _, ?_⟩
                intro hv8
                have Y : Sy _ _ hv8 [_, _, _, _, _, _, _, _, _] := Y.st1 0 rfl hb_3 n (by omega) rfl
                clear_value hv8
                exact loopBack hm_2 ⟨_, _, rfl, Y.pick [0, 1, 2, 3, 4, 5, 6, 7, 8] rfl, T.1, rfl⟩ T.2
              · exact ⟨_, _, rfl, Y.pick [0, 1, 2, 3, 4] rfl, T⟩
        · subst hB_2 hF_2
          clear T0 Y
          rintro n2 hv9 ⟨n2, r_2_2_2, e, Y, T⟩
          cases e
          replace T := T1 n2 r_2_2_2 T
          have Y : Sy _ _ _ [_, _, _, _, _] := Y
          exact loopBack hm ⟨_, _, _, rfl, Y.pick [0, 1, 2, 3, 4] rfl, T.1, rfl⟩ T.2
      · exact ⟨_, _, _, _, _, _, Y.pick [0] rfl, rfl, T⟩
end Go.Proofs.Ytmcloipjlihhlaa.N
