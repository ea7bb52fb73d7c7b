/- Functions: what is left to be shown of each, over memory and without: printed by program, tied to the loaded functions by the kernel. Conditions: none. -/
import Derived.Test.YtmcloipjlihhlaaSEnv
import Derived.Test.YtmcloipjlihhlaaYMore
import Derived.Test.YtmcloipjlihhlaaTKuraL
import Derived.Test.YtmcloipjlihhlaaTMade
namespace Go.Proofs.Ytmcloipjlihhlaa.N
open Go.Proofs.Ytmcloipjlihhlaa
open Go.X
set_option maxRecDepth 100000
set_option linter.unusedVariables false
set_option linter.unusedSimpArgs false
set_option maxHeartbeats 2000000

/-- tracery/traceryref3.Copy -/
def S95 (g : Int) (gA : Option Addr) (gL gC : Nat) (h : Heap) (R : Value → Heap → Prop) : Prop :=
  let hv : Heap := h.push (.cells #[.int .i64 g, .slice gA gL gC] 26)
  let hv2 : Heap := hv.push (.cells #[.int .i64 0, .slice none 0 0] 26)
  ∃ Mv : List Nat, (∀ b ∈ ([hv.size, h.size] : List Nat), b ∉ Mv) ∧
  ∃ xs : List Value, Reads hv2 2 gA gL xs ∧ (gA = none → gC = 0) ∧ (∀ v ∈ xs, v.oneCell' = true) ∧ ∃ old, Own hv2 35 2 none 0 0 old ∧ (∀ b ∈ ([hv.size, h.size] : List Nat), b ∉ blkOf none) ∧ (0 + gL) * 16 ≤ 140737488355328 ∧ (0 + gL) ≤ maxLen ∧
  ∀ sA sC hv3, Own hv3 35 2 sA (0 + gL) sC (old ++ xs) → Fr (blkOf none) hv2 hv3 → ((sA = none ∧ sC = 0) ∨ ∃ g, sA = some ⟨g, 0, none⟩ ∧ hv2.size ≤ g) → (0 < (0 + gL) → Fr [] hv2 hv3) →
  Fr Mv hv2 hv3 ∧
  let hv4 : Heap := hset (hset hv3 hv.size 0 (.int .i64 g)) hv.size (0 + 1) (.slice sA (0 + gL) sC)
  R (.agg #[.int .i64 g, .slice sA (0 + gL) sC]) hv4
theorem calls95 {h : Heap} {R : Value → Heap → Prop} (g : Int) (gA : Option Addr) (gL gC : Nat) (H : S95 g gA gL gC h R) : CallsH Try.prog 95 #[.agg #[.int .i64 g, .slice gA gL gC]] h R := by
  have e : S95 g gA gL gC h R = FX (envX [1, 2] 9) { loops := [], joins := [], blocks := [], draws := [(1, ⟨5, true⟩)] } Try.f95 (Try.f95.body.getD .skip) [.agg #[.int .i64 g, .slice gA gL gC]] h R := by kernel_rfl
  exact calls_of_FX (envX_ok _ _) Try.func95 (by kernel_rfl) (by kernel_rfl) (by kernel_rfl) (e ▸ H)
/-- tracery/traceryref3.Copy -/
def Ok95 (g : Int) (edgesV : List (Int × Int)) (R : Int → List (Int × Int) → Prop) : Prop :=
  ∀ (h : Heap) (gA : Option Addr) (gL gC : Nat), Hp h [Ck.vw eP gA gL gC edgesV] → CallsH Try.prog 95 #[.agg #[.int .i64 g, .slice gA gL gC]] h fun v h' => ∃ (nV : Int) (edgesVA : Option Addr) (edgesVL edgesVC : Nat) (edgesV2 : List (Int × Int)), Sy h [] h' [Ck.sl eP 35 edgesVA edgesVL edgesVC edgesV2] ∧ v = .agg #[.int .i64 nV, .slice edgesVA edgesVL edgesVC] ∧ R nV edgesV2
theorem Ok95.mono {g edgesV} {R R' : Int → List (Int × Int) → Prop} (H : Ok95 g edgesV R) (kz : ∀ nV edgesV2, R nV edgesV2 → R' nV edgesV2) : Ok95 g edgesV R' :=
  fun h gA gL gC hp => (H h gA gL gC hp).mono fun _ _ ⟨nV, edgesVA, edgesVL, edgesVC, edgesV2, P, e, q⟩ => ⟨nV, edgesVA, edgesVL, edgesVC, edgesV2, P, e, kz _ _ q⟩
def T95 (g : Int) (edgesV : List (Int × Int)) (R : Int → List (Int × Int) → Prop) : Prop :=
  (0 + edgesV.length) < 1000000000000 ∧ R g (([] : List (Int × Int)) ++ edgesV)
theorem ok95 {g edgesV} {R : Int → List (Int × Int) → Prop} (T : T95 g edgesV R) : Ok95 g edgesV R := by
  intro h gA gL gC H
  have Y : Sy h [] h _ := Sy.startM H rfl
  obtain rfl := Y.lenV 0 rfl
  apply calls95
  unfold S95
  unfold T95 at T
  intro hv
  have Y : Sy _ _ hv [_, _] := Y.junk _
  clear_value hv
  intro hv2
  have Y : Sy _ _ hv2 [_, _, _] := Y.junk _
  clear_value hv2
  have Y0 := Y
  obtain ⟨Mx, hMx⟩ := Y.mt [] []
  refine ⟨Mx, ?_⟩
  subst hMx
  refine ⟨(allc (Y0.nMJ 2 [] [] rfl rfl) (allc (Y0.nMJ 1 [] [] rfl rfl) alln)), ?_⟩
  have F : Fr _ hv2 hv2 := Y0.frM [] []
  refine ⟨_, Y.readsV 0 rfl, (Y.capV 0 rfl).2, En.l_one _, ?_⟩
  have Y : Sy _ _ _ [_, _, _, _] := Y.nilS eP 35
  obtain ⟨q, T⟩ := T
  refine ⟨_, Y.ownS 3 rfl, (allc (Y.nJ 3 2 rfl rfl rfl) (allc (Y.nJ 3 1 rfl rfl rfl) alln)), by first | exact appB q (by decide) | omega, by first | exact appM q | (simp [maxLen]; omega), ?_⟩
  intro sA sC hv3 ow fA gA gB
  have Y : Sy _ _ hv3 [_, _, _, _] := Y.appS 3 rfl edgesV ow fA gA rfl (by first | rfl | simp)
  have ns := F.appIn nil_in gA (Nat.le_refl _)
  have F : Fr _ _ hv3 := F.comp fA nil_in
  have fshv3 := F.size
  refine ⟨F, ?_⟩
  intro hv4
  have Y : Sy _ _ hv4 [_, _, _, _] := ((Y.stJ 2 rfl _ _).stJ 2 rfl _ _)
  clear_value hv4
  exact ⟨_, _, _, _, _, Y.pick [3] rfl, rfl, T⟩
/-- tracery/traceryref3.Split -/
def S96 (g : Int) (gA : Option Addr) (gL gC : Nat) (ev : Int) (h : Heap) (R : Value → Heap → Prop) : Prop :=
  let hv : Heap := h.push (.cells #[.int .i64 g, .slice gA gL gC] 26)
  let hv2 : Heap := hv.push (.cells #[.int .i64 0, .slice none 0 0] 26)
  cnd (decide (ev < (0 : Int)))
    (let hv3 : Heap := hset (hset hv2 hv.size 0 (.int .i64 0)) hv.size (0 + 1) (.slice none 0 0)
    R (.tuple #[.agg #[.int .i64 0, .slice none 0 0], .int .i64 2]) hv3)
    (cnd (decide (ev ≥ ((gL : Nat) : Int)))
      (let hv4 : Heap := hset (hset hv2 hv.size 0 (.int .i64 0)) hv.size (0 + 1) (.slice none 0 0)
      R (.tuple #[.agg #[.int .i64 0, .slice none 0 0], .int .i64 2]) hv4)
      (callX Try.prog 95 #[.agg #[.int .i64 g, .slice gA gL gC]] hv2 [hv.size, h.size] fun v hv5 =>
      ∃ r : Int, ∃ (rA : Option Addr) (rL rC : Nat), v = .agg #[.int .i64 r, .slice rA rL rC] ∧
      let hv6 : Heap := hv5.push (.cells #[.int .i64 0, .slice none 0 0] 26)
      let hv7 : Heap := hset (hset hv6 hv5.size 0 (.int .i64 r)) hv5.size (0 + 1) (.slice rA rL rC)
      ∃ b o, rA = some ⟨b, o, none⟩ ∧ 0 ≤ ev ∧ ev < (rL : Nat) ∧ b ≠ hv5.size ∧ b ≠ hv.size ∧ b ≠ h.size ∧ (∃ u, hcell hv7 b ((o + (Int.toNat ev) * 2) + 1) = some u) ∧ hfree hv7 b ((o + (Int.toNat ev) * 2) + 1) = true ∧ let hv8 : Heap := hset hv7 b ((o + (Int.toNat ev) * 2) + 1) (.int .i64 g)
      ∃ b2 o2, gA = some ⟨b2, o2, none⟩ ∧ 0 ≤ ev ∧ ev < (gL : Nat) ∧ ∃ x : Int, hcell hv8 b2 ((o2 + (Int.toNat ev) * 2) + 1) = some (.int .i64 x) ∧ let hv9 : Heap := hv8.push (.cells #[.int .i64 g, .int .i64 x] 35)
      Fr [] hv8 hv9 ∧
      ∃ old, Own hv9 35 2 rA rL rC old ∧ (∀ b ∈ ([hv8.size, hv5.size, hv.size, h.size] : List Nat), b ∉ blkOf rA) ∧ (rL + 1) * 16 ≤ 140737488355328 ∧ (rL + 1) ≤ maxLen ∧
      ∀ sA sC hv10, Own hv10 35 2 sA (rL + 1) sC (old ++ [.int .i64 g, .int .i64 x]) → Fr (blkOf rA) hv9 hv10 → ((sA = rA ∧ sC = rC) ∨ ∃ g, sA = some ⟨g, 0, none⟩ ∧ hv9.size ≤ g) → (rC < (rL + 1) → Fr [] hv9 hv10) →
      let hv11 : Heap := hset hv10 hv5.size 1 (.slice sA (rL + 1) sC)
      let hv12 : Heap := hset hv11 hv5.size 0 (.int .i64 (IntKind.i64.wrap (r + (1 : Int))))
      callX Try.prog 43 #[.agg #[.int .i64 (IntKind.i64.wrap (r + (1 : Int))), .slice sA (rL + 1) sC]] hv12 [hv8.size, hv5.size, hv.size, h.size] fun v2 hv13 =>
      ∃ r2 : Bool, v2 = .bool r2 ∧
      cnd (!r2)
        (let hv14 : Heap := hset (hset hv13 hv.size 0 (.int .i64 0)) hv.size (0 + 1) (.slice none 0 0)
        R (.tuple #[.agg #[.int .i64 0, .slice none 0 0], .int .i64 3]) hv14)
        (let hv15 : Heap := hset (hset hv13 hv.size 0 (.int .i64 (IntKind.i64.wrap (r + (1 : Int))))) hv.size (0 + 1) (.slice sA (rL + 1) sC)
        R (.tuple #[.agg #[.int .i64 (IntKind.i64.wrap (r + (1 : Int))), .slice sA (rL + 1) sC], .int .i64 0]) hv15)))
theorem calls96 {h : Heap} {R : Value → Heap → Prop} (g : Int) (gA : Option Addr) (gL gC : Nat) (ev : Int) (H : S96 g gA gL gC ev h R) : CallsH Try.prog 96 #[.agg #[.int .i64 g, .slice gA gL gC], .int .i64 ev] h R := by
  have e : S96 g gA gL gC ev h R = FX (envX [2, 4, 6, 37] 49) { loops := [], joins := [], blocks := [], draws := [(4, ⟨7, false⟩), (5, ⟨12, false⟩)] } Try.f96 (Try.f96.body.getD .skip) [.agg #[.int .i64 g, .slice gA gL gC], .int .i64 ev] h R := by kernel_rfl
  exact calls_of_FX (envX_ok _ _) Try.func96 (by kernel_rfl) (by kernel_rfl) (by kernel_rfl) (e ▸ H)
/-- tracery/traceryref3.Split -/
def Ok96 (g : Int) (edgesV : List (Int × Int)) (ev : Int) (R : Int → List (Int × Int) → Int → Prop) : Prop :=
  ∀ (h : Heap) (gA : Option Addr) (gL gC : Nat), Hp h [Ck.vw eP gA gL gC edgesV] → CallsH Try.prog 96 #[.agg #[.int .i64 g, .slice gA gL gC], .int .i64 ev] h fun v h' => ∃ (nV : Int) (edgesVA : Option Addr) (edgesVL edgesVC : Nat) (edgesV2 : List (Int × Int)) (rbV : Int), Sy h [] h' [Ck.sl eP 35 edgesVA edgesVL edgesVC edgesV2] ∧ v = .tuple #[.agg #[.int .i64 nV, .slice edgesVA edgesVL edgesVC], .int .i64 rbV] ∧ R nV edgesV2 rbV
theorem Ok96.mono {g edgesV ev} {R R' : Int → List (Int × Int) → Int → Prop} (H : Ok96 g edgesV ev R) (kz : ∀ nV edgesV2 rbV, R nV edgesV2 rbV → R' nV edgesV2 rbV) : Ok96 g edgesV ev R' :=
  fun h gA gL gC hp => (H h gA gL gC hp).mono fun _ _ ⟨nV, edgesVA, edgesVL, edgesVC, edgesV2, rbV, P, e, q⟩ => ⟨nV, edgesVA, edgesVL, edgesVC, edgesV2, rbV, P, e, kz _ _ _ q⟩
def T96 (g : Int) (edgesV : List (Int × Int)) (ev : Int) (R : Int → List (Int × Int) → Int → Prop) : Prop :=
  cnd (decide (ev < (0 : Int)))
    (R 0 ([] : List (Int × Int)) 2)
    (cnd (decide (ev ≥ ((edgesV.length : Nat) : Int)))
      (R 0 ([] : List (Int × Int)) 2)
      (Ok95 g edgesV (fun r r_2 =>
      0 ≤ ev ∧ ev < ((r_2.length : Nat) : Int) ∧ ∀ r_3 : (Int × Int), r_2[(Int.toNat ev)]? = some r_3 → 0 ≤ ev ∧ ev < ((edgesV.length : Nat) : Int) ∧ ∀ g_2 : (Int × Int), edgesV[(Int.toNat ev)]? = some g_2 → (r_2.length + 1) < 1000000000000 ∧ Ok43 (IntKind.i64.wrap (r + (1 : Int))) ((r_2.set (Int.toNat ev) (r_3.1, g)) ++ [(g, g_2.2)]) (fun r2 =>
      cnd (!r2)
        (R 0 ([] : List (Int × Int)) 3)
        (R (IntKind.i64.wrap (r + (1 : Int))) ((r_2.set (Int.toNat ev) (r_3.1, g)) ++ [(g, g_2.2)]) 0)))))
theorem ok96 {g edgesV ev} {R : Int → List (Int × Int) → Int → Prop} (T : T96 g edgesV ev R) : Ok96 g edgesV ev R := by
  intro h gA gL gC H
  have Y : Sy h [] h _ := Sy.startM H rfl
  obtain rfl := Y.lenV 0 rfl
  apply calls96
  unfold S96
  unfold T96 at T
  intro hv
  have Y : Sy _ _ hv [_, _] := Y.junk _
  clear_value hv
  intro hv2
  have Y : Sy _ _ hv2 [_, _, _] := Y.junk _
  clear_value hv2
  refine cnd_imp T (fun T => ?_) (fun T => ?_)
  · intro hv3
    have Y : Sy _ _ hv3 [_, _, _] := ((Y.stJ 2 rfl _ _).stJ 2 rfl _ _)
    clear_value hv3
    have Y : Sy _ _ _ [_, _, _, _] := Y.nilS eP 35
    exact ⟨_, _, _, _, _, _, Y.pick [3] rfl, rfl, T⟩
  · refine cnd_imp T (fun T => ?_) (fun T => ?_)
    · intro hv4
      have Y : Sy _ _ hv4 [_, _, _] := ((Y.stJ 2 rfl _ _).stJ 2 rfl _ _)
      clear_value hv4
      have Y : Sy _ _ _ [_, _, _, _] := Y.nilS eP 35
      exact ⟨_, _, _, _, _, _, Y.pick [3] rfl, rfl, T⟩
    · refine callX_sy (T _ _ _ _ (Y.pick [0] rfl).hp) (fun _ _ ⟨_, _, _, _, _, p, _⟩ => p.fr) (allc (fun h => by cases h) (allc (fun h => by cases h) alln)) ?_
      rintro v hv5 ⟨r, rA, rL, rC, r_2, PP, rfl, T⟩
      have Y : Sy _ _ hv5 [_, _, _, _] := Y.callV PP ⟨rfl, trivial⟩
      clear PP
      obtain rfl := Y.lenS 3 rfl
      refine ⟨r, _, _, _, rfl, ?_⟩
      intro hv6
      have Y : Sy _ _ hv6 [_, _, _, _, _] := Y.junk _
      clear_value hv6
      intro hv7
      have Y : Sy _ _ hv7 [_, _, _, _, _] := ((Y.stJ 4 rfl _ _).stJ 4 rfl _ _)
      clear_value hv7
      have Y0 := Y
      have F : Fr [] hv7 hv7 := Fr.refl _ _
      obtain ⟨q, q_2, T⟩ := T
      obtain ⟨b_2, hb, ho, r_3, hx⟩ := Y0.atS 3 rfl q q_2
      refine ⟨b_2, 0, hb, q, q_2, ?_⟩
      replace T := T r_3 hx
      refine ⟨(Y.neJ 3 4 rfl rfl rfl ho), (Y.neJ 3 2 rfl rfl rfl ho), (Y.neJ 3 1 rfl rfl rfl ho), Y.cellEx 3 rfl hb (t := 1) (by omega) (by decide), Y.freeS 3 rfl hb _, ?_⟩
      intro hv8
      have Y : Sy _ _ hv8 [_, _, _, _, _] := Y.stS 3 rfl hb (t := 1) (r_3.1, g) hx (by decide) rfl
      clear_value hv8
      have Y0 := Y
      have F : Fr [] hv8 hv8 := Fr.refl _ _
      obtain ⟨q_3, q_4, T⟩ := T
      obtain ⟨b_3, o_2, hb_2, hr, g_2, hx_2⟩ := Y0.atV 0 rfl q_3 q_4
      refine ⟨b_3, o_2, hb_2, q_3, q_4, ?_⟩
      replace T := T g_2 hx_2
      refine ⟨_, Y0.cellV 0 rfl hb_2 (t := 1) hx_2 rfl, ?_⟩
      intro hv9
      have Y : Sy _ _ hv9 [_, _, _, _, _, _] := Y.junk _
      have F : Fr _ _ hv9 := F.pushr _
      have fshv9 := F.size
      clear_value hv9
      refine ⟨F, ?_⟩
      obtain ⟨q_5, T⟩ := T
      refine ⟨_, Y.ownS 3 rfl, (allc (Y.nJ 3 5 rfl rfl rfl) (allc (Y.nJ 3 4 rfl rfl rfl) (allc (Y.nJ 3 2 rfl rfl rfl) (allc (Y.nJ 3 1 rfl rfl rfl) alln)))), by first | exact appB q_5 (by decide) | omega, by first | exact appM q_5 | (simp [maxLen]; omega), ?_⟩
      intro sA sC hv10 ow fA gA gB
      have Y : Sy _ _ hv10 [_, _, _, _, _, _] := Y.appS 3 rfl ([(g, g_2.2)] : List (Int × Int)) ow fA gA rfl rfl
      intro hv11
      have Y : Sy _ _ hv11 [_, _, _, _, _, _] := (Y.stJ 4 rfl _ _)
      clear_value hv11
      intro hv12
      have Y : Sy _ _ hv12 [_, _, _, _, _, _] := (Y.stJ 4 rfl _ _)
      clear_value hv12
      refine callX_sy (T _ _ _ _ ((Y.turn 3 rfl To.slvw).pick [3] rfl).hp) (fun _ _ ⟨_, p, _⟩ => p.fr) (allc (fun h => by cases h) (allc (fun h => by cases h) (allc (fun h => by cases h) (allc (fun h => by cases h) alln)))) ?_
      rintro v2 hv13 ⟨r2, PP, rfl, T⟩
      have Y : Sy _ _ hv13 [_, _, _, _, _, _] := Y.gr PP.fr
      clear PP
      refine ⟨r2, rfl, ?_⟩
      refine cnd_imp T (fun T => ?_) (fun T => ?_)
      · intro hv14
        have Y : Sy _ _ hv14 [_, _, _, _, _, _] := ((Y.stJ 2 rfl _ _).stJ 2 rfl _ _)
        clear_value hv14
        have Y : Sy _ _ _ [_, _, _, _, _, _, _] := Y.nilS eP 35
        exact ⟨_, _, _, _, _, _, Y.pick [6] rfl, rfl, T⟩
      · intro hv15
        have Y : Sy _ _ hv15 [_, _, _, _, _, _] := ((Y.stJ 2 rfl _ _).stJ 2 rfl _ _)
        clear_value hv15
        exact ⟨_, _, _, _, _, _, Y.pick [3] rfl, rfl, T⟩
/-- tracery/traceryref3.Join -/
def S110 (a : Int) (aA : Option Addr) (aL aC : Nat) (b : Int) (bA : Option Addr) (bL bC : Nat) (h : Heap) (R : Value → Heap → Prop) : Prop :=
  let hv : Heap := h.push (.cells #[.int .i64 a, .slice aA aL aC] 26)
  let hv2 : Heap := hv.push (.cells #[.int .i64 b, .slice bA bL bC] 26)
  let hv3 : Heap := hv2.push (.cells #[.int .i64 0, .slice none 0 0] 26)
  callX Try.prog 95 #[.agg #[.int .i64 a, .slice aA aL aC]] hv3 [hv2.size, hv.size, h.size] fun v hv4 =>
  ∃ r : Int, ∃ (rA : Option Addr) (rL rC : Nat), v = .agg #[.int .i64 r, .slice rA rL rC] ∧
  let hv5 : Heap := hv4.push (.cells #[.int .i64 0, .slice none 0 0] 26)
  let hv6 : Heap := hset (hset hv5 hv4.size 0 (.int .i64 r)) hv4.size (0 + 1) (.slice rA rL rC)
  let hv7 : Heap := hset hv6 hv4.size 0 (.int .i64 (IntKind.i64.wrap (a + b)))
  ∃ (Iv : List Value → Heap → Prop) (m : List Value → Heap → Nat), Iv [.int .i64 0, .int .i64 (IntKind.i64.wrap (a + b)), .slice rA rL rC] hv7 ∧ -- loop 0: ['i']
  ∀ i : Int, ∀ c0 : Int, ∀ (c1A : Option Addr) (c1L c1C : Nat), ∀ hv8, Iv [.int .i64 i, .int .i64 c0, .slice c1A c1L c1C] hv8 →
  cnd (decide (i < ((bL : Nat) : Int)))
    (∃ b2 o, bA = some ⟨b2, o, none⟩ ∧ 0 ≤ i ∧ i < (bL : Nat) ∧ ∃ x : Int, hcell hv8 b2 ((o + (Int.toNat i) * 2) + 0) = some (.int .i64 x) ∧ ∃ b3 o2, bA = some ⟨b3, o2, none⟩ ∧ 0 ≤ i ∧ i < (bL : Nat) ∧ ∃ x2 : Int, hcell hv8 b3 ((o2 + (Int.toNat i) * 2) + 1) = some (.int .i64 x2) ∧ let hv9 : Heap := hv8.push (.cells #[.int .i64 (IntKind.i64.wrap (x + a)), .int .i64 (IntKind.i64.wrap (x2 + a))] 35)
    Fr [] hv8 hv9 ∧
    ∃ old, Own hv9 35 2 c1A c1L c1C old ∧ (∀ b ∈ ([hv8.size, hv4.size, h.size, hv.size, hv2.size] : List Nat), b ∉ blkOf c1A) ∧ (c1L + 1) * 16 ≤ 140737488355328 ∧ (c1L + 1) ≤ maxLen ∧
    ∀ sA sC hv10, Own hv10 35 2 sA (c1L + 1) sC (old ++ [.int .i64 (IntKind.i64.wrap (x + a)), .int .i64 (IntKind.i64.wrap (x2 + a))]) → Fr (blkOf c1A) hv9 hv10 → ((sA = c1A ∧ sC = c1C) ∨ ∃ g, sA = some ⟨g, 0, none⟩ ∧ hv9.size ≤ g) → (c1C < (c1L + 1) → Fr [] hv9 hv10) →
    let hv11 : Heap := hset hv10 hv4.size 1 (.slice sA (c1L + 1) sC)
    Iv [.int .i64 (IntKind.i64.wrap (i + (1 : Int))), .int .i64 c0, .slice sA (c1L + 1) sC] hv11 ∧ m [.int .i64 (IntKind.i64.wrap (i + (1 : Int))), .int .i64 c0, .slice sA (c1L + 1) sC] hv11 < m [.int .i64 i, .int .i64 c0, .slice c1A c1L c1C] hv8)
    (callX Try.prog 43 #[.agg #[.int .i64 c0, .slice c1A c1L c1C]] hv8 [hv4.size, h.size, hv.size, hv2.size] fun v2 hv12 =>
    ∃ r2 : Bool, v2 = .bool r2 ∧
    cnd (!r2)
      (let hv13 : Heap := hset (hset hv12 hv2.size 0 (.int .i64 0)) hv2.size (0 + 1) (.slice none 0 0)
      R (.tuple #[.agg #[.int .i64 0, .slice none 0 0], .int .i64 3]) hv13)
      (let hv14 : Heap := hset (hset hv12 hv2.size 0 (.int .i64 c0)) hv2.size (0 + 1) (.slice c1A c1L c1C)
      R (.tuple #[.agg #[.int .i64 c0, .slice c1A c1L c1C], .int .i64 0]) hv14))
theorem calls110 {h : Heap} {R : Value → Heap → Prop} (a : Int) (aA : Option Addr) (aL aC : Nat) (b : Int) (bA : Option Addr) (bL bC : Nat) (H : S110 a aA aL aC b bA bL bC h R) : CallsH Try.prog 110 #[.agg #[.int .i64 a, .slice aA aL aC], .agg #[.int .i64 b, .slice bA bL bC]] h R := by
  have e : S110 a aA aL aC b bA bL bC h R = FX (envX [2, 3, 4, 6, 44] 52) { loops := [(0, ⟨[2, 3, 4, 6], [7], [2, 3, 4], [6]⟩)], joins := [], blocks := [], draws := [(6, ⟨22, false⟩)] } Try.f110 (Try.f110.body.getD .skip) [.agg #[.int .i64 a, .slice aA aL aC], .agg #[.int .i64 b, .slice bA bL bC]] h R := by kernel_rfl
  exact calls_of_FX (envX_ok _ _) Try.func110 (by kernel_rfl) (by kernel_rfl) (by kernel_rfl) (e ▸ H)
/-- tracery/traceryref3.Join -/
def Ok110 (a : Int) (edgesV : List (Int × Int)) (b : Int) (edgesV2 : List (Int × Int)) (R : Int → List (Int × Int) → Int → Prop) : Prop :=
  ∀ (h : Heap) (aA : Option Addr) (aL aC : Nat) (bA : Option Addr) (bL bC : Nat), Hp h [Ck.vw eP aA aL aC edgesV, Ck.vw eP bA bL bC edgesV2] → CallsH Try.prog 110 #[.agg #[.int .i64 a, .slice aA aL aC], .agg #[.int .i64 b, .slice bA bL bC]] h fun v h' => ∃ (nV : Int) (edgesVA : Option Addr) (edgesVL edgesVC : Nat) (edgesV3 : List (Int × Int)) (rbV : Int), Sy h [] h' [Ck.sl eP 35 edgesVA edgesVL edgesVC edgesV3] ∧ v = .tuple #[.agg #[.int .i64 nV, .slice edgesVA edgesVL edgesVC], .int .i64 rbV] ∧ R nV edgesV3 rbV
theorem Ok110.mono {a edgesV b edgesV2} {R R' : Int → List (Int × Int) → Int → Prop} (H : Ok110 a edgesV b edgesV2 R) (kz : ∀ nV edgesV3 rbV, R nV edgesV3 rbV → R' nV edgesV3 rbV) : Ok110 a edgesV b edgesV2 R' :=
  fun h aA aL aC bA bL bC hp => (H h aA aL aC bA bL bC hp).mono fun _ _ ⟨nV, edgesVA, edgesVL, edgesVC, edgesV3, rbV, P, e, q⟩ => ⟨nV, edgesVA, edgesVL, edgesVC, edgesV3, rbV, P, e, kz _ _ _ q⟩
def T110 (a : Int) (edgesV : List (Int × Int)) (b : Int) (edgesV2 : List (Int × Int)) (R : Int → List (Int × Int) → Int → Prop) : Prop :=
  Ok95 a edgesV (fun r r_2 =>
  ∃ (Iv : Int → Int → List (Int × Int) → Prop) (m : Int → Int → List (Int × Int) → Nat), Iv 0 (IntKind.i64.wrap (a + b)) r_2 ∧
  ∀ i : Int, ∀ c0 : Int, ∀ c1 : List (Int × Int), Iv i c0 c1 →
  cnd (decide (i < ((edgesV2.length : Nat) : Int)))
    (0 ≤ i ∧ i < ((edgesV2.length : Nat) : Int) ∧ ∀ b_3 : (Int × Int), edgesV2[(Int.toNat i)]? = some b_3 → (c1.length + 1) < 1000000000000 ∧ Iv (IntKind.i64.wrap (i + (1 : Int))) c0 (c1 ++ [((IntKind.i64.wrap (b_3.1 + a)), (IntKind.i64.wrap (b_3.2 + a)))]) ∧ m (IntKind.i64.wrap (i + (1 : Int))) c0 (c1 ++ [((IntKind.i64.wrap (b_3.1 + a)), (IntKind.i64.wrap (b_3.2 + a)))]) < m i c0 c1)
    (Ok43 c0 c1 (fun r2 =>
    cnd (!r2)
      (R 0 ([] : List (Int × Int)) 3)
      (R c0 c1 0))))
theorem ok110 {a edgesV b edgesV2} {R : Int → List (Int × Int) → Int → Prop} (T : T110 a edgesV b edgesV2 R) : Ok110 a edgesV b edgesV2 R := by
  intro h aA aL aC bA bL bC H
  have Y : Sy h [] h _ := Sy.startM H rfl
  obtain rfl := Y.lenV 0 rfl
  obtain rfl := Y.lenV 1 rfl
  apply calls110
  unfold S110
  unfold T110 at T
  intro hv
  have Y : Sy _ _ hv [_, _, _] := Y.junk _
  clear_value hv
  intro hv2
  have Y : Sy _ _ hv2 [_, _, _, _] := Y.junk _
  clear_value hv2
  intro hv3
  have Y : Sy _ _ hv3 [_, _, _, _, _] := Y.junk _
  clear_value hv3
  refine callX_sy (T _ _ _ _ (Y.pick [0] rfl).hp) (fun _ _ ⟨_, _, _, _, _, p, _⟩ => p.fr) (allc (fun h => by cases h) (allc (fun h => by cases h) (allc (fun h => by cases h) alln))) ?_
  rintro v hv4 ⟨r, rA, rL, rC, r_2, PP, rfl, T⟩
  have Y : Sy _ _ hv4 [_, _, _, _, _, _] := Y.callV PP ⟨rfl, trivial⟩
  clear PP
  obtain rfl := Y.lenS 5 rfl
  refine ⟨r, _, _, _, rfl, ?_⟩
  intro hv5
  have Y : Sy _ _ hv5 [_, _, _, _, _, _, _] := Y.junk _
  clear_value hv5
  intro hv6
  have Y : Sy _ _ hv6 [_, _, _, _, _, _, _] := ((Y.stJ 6 rfl _ _).stJ 6 rfl _ _)
  clear_value hv6
  intro hv7
  have Y : Sy _ _ hv7 [_, _, _, _, _, _, _] := (Y.stJ 6 rfl _ _)
  clear_value hv7
  obtain ⟨Iv, m, T0, T1⟩ := T
  obtain ⟨B, hB, YB⟩ := Y.cut [5] [0, 1, 2, 3, 4, 6] rfl
  obtain ⟨JJ, hJJ⟩ : ∃ JJ : Nat → List Value → Heap → Prop, JJ = (fun k lz h' => ∃ (i : Int) (c0 : Int) (c1A : Option Addr) (c1L c1C : Nat) (c1 : List (Int × Int)), lz = [.int .i64 i, .int .i64 c0, .slice c1A c1L c1C] ∧ Sy h [] h' ([Ck.sl eP 35 c1A c1L c1C c1] ++ B) ∧ Iv i c0 c1 ∧ m i c0 c1 = k) := ⟨_, rfl⟩
  refine ⟨fun lz h' => ∃ k, JJ k lz h', Lm JJ, ?_, ?_⟩
  · subst hJJ hB
    exact ⟨_, _, _, _, _, _, _, rfl, YB, T0, rfl⟩
  · clear YB T0 Y
    intro i c0 c1A c1L c1C hv8 hI
    obtain ⟨k, hI, hm⟩ := loopIn hI
    subst hJJ hB
    obtain ⟨i, c0, c1A, c1L, c1C, c1, e, Y, T, rfl⟩ := hI
    cases e
    obtain rfl := Y.lenS 0 rfl
    replace T := T1 i c0 c1 T
    have Y : Sy _ _ _ [_, _, _, _, _, _, _] := Y
    refine cnd_imp T (fun T => ?_) (fun T => ?_)
    · have Y0 := Y
      have F : Fr [] hv8 hv8 := Fr.refl _ _
      obtain ⟨q, q_2, T⟩ := T
      obtain ⟨b_2, o_2, hb, hr, b_3, hx⟩ := Y0.atV 2 rfl q q_2
      refine ⟨b_2, o_2, hb, q, q_2, ?_⟩
      replace T := T b_3 hx
      refine ⟨_, Y0.cellV 2 rfl hb (t := 0) hx rfl, ?_⟩
      refine ⟨b_2, o_2, hb, q, q_2, ?_⟩
      refine ⟨_, Y0.cellV 2 rfl hb (t := 1) hx rfl, ?_⟩
      intro hv9
      have Y : Sy _ _ hv9 [_, _, _, _, _, _, _, _] := Y.junk _
      have F : Fr _ _ hv9 := F.pushr _
      have fshv9 := F.size
      clear_value hv9
      refine ⟨F, ?_⟩
      obtain ⟨q_3, T⟩ := T
      refine ⟨_, Y.ownS 0 rfl, (allc (Y.nJ 0 7 rfl rfl rfl) (allc (Y.nJ 0 6 rfl rfl rfl) (allc (Y.nJ 0 3 rfl rfl rfl) (allc (Y.nJ 0 4 rfl rfl rfl) (allc (Y.nJ 0 5 rfl rfl rfl) alln))))), by first | exact appB q_3 (by decide) | omega, by first | exact appM q_3 | (simp [maxLen]; omega), ?_⟩
      intro sA sC hv10 ow fA gA gB
      have Y : Sy _ _ hv10 [_, _, _, _, _, _, _, _] := Y.appS 0 rfl ([((IntKind.i64.wrap (b_3.1 + a)), (IntKind.i64.wrap (b_3.2 + a)))] : List (Int × Int)) ow fA gA rfl rfl
      intro hv11
      have Y : Sy _ _ hv11 [_, _, _, _, _, _, _, _] := (Y.stJ 6 rfl _ _)
      clear_value hv11
      exact loopBack hm ⟨_, _, _, _, _, _, rfl, Y.pick [0, 1, 2, 3, 4, 5, 6] rfl, T.1, rfl⟩ T.2
    · refine callX_sy (T _ _ _ _ ((Y.turn 0 rfl To.slvw).pick [0] rfl).hp) (fun _ _ ⟨_, p, _⟩ => p.fr) (allc (fun h => by cases h) (allc (fun h => by cases h) (allc (fun h => by cases h) (allc (fun h => by cases h) alln)))) ?_
      rintro v2 hv12 ⟨r2, PP, rfl, T⟩
      have Y : Sy _ _ hv12 [_, _, _, _, _, _, _] := Y.gr PP.fr
      clear PP
      refine ⟨r2, rfl, ?_⟩
      refine cnd_imp T (fun T => ?_) (fun T => ?_)
      · intro hv13
        have Y : Sy _ _ hv13 [_, _, _, _, _, _, _] := ((Y.stJ 5 rfl _ _).stJ 5 rfl _ _)
        clear_value hv13
        have Y : Sy _ _ _ [_, _, _, _, _, _, _, _] := Y.nilS eP 35
        exact ⟨_, _, _, _, _, _, Y.pick [7] rfl, rfl, T⟩
      · intro hv14
        have Y : Sy _ _ hv14 [_, _, _, _, _, _, _] := ((Y.stJ 5 rfl _ _).stJ 5 rfl _ _)
        clear_value hv14
        exact ⟨_, _, _, _, _, _, Y.pick [0] rfl, rfl, T⟩
/-- tracery/tracerylaw12.KuraGrown -/
def S26 (five : Bool) (splitsA : Option Addr) (splitsL splitsC : Nat) (more : Int) (moreA : Option Addr) (moreL moreC : Nat) (turn : Int) (h : Heap) (R : Value → Heap → Prop) : Prop :=
  let hv : Heap := h.push (.cells #[.int .i64 more, .slice moreA moreL moreC] 26)
  callX Try.prog 58 #[] hv [h.size] fun v hv2 =>
  ∃ r : Bool, v = .bool r ∧
  cnd (!r)
    (R (.bool false) hv2)
    (let K := fun (hv4 : Heap) =>
      (R (.bool true) hv4)
    callX Try.prog 43 #[.agg #[.int .i64 more, .slice moreA moreL moreC]] hv2 [h.size] fun v2 hv3 =>
    ∃ r2 : Bool, v2 = .bool r2 ∧
    cnd (!r2)
      (K hv3)
      (cnd (decide (more > (50 : Int)))
        (K hv3)
        (cnd (decide (((moreL : Nat) : Int) > (60 : Int)))
          (K hv3)
          (cnd (decide (((splitsL : Nat) : Int) > (60 : Int)))
            (K hv3)
            (cnd (decide (turn < (0 : Int)))
              (R (.bool true) hv3)
              (callX Try.prog 34 #[.int .i64 3, .int .i64 3] hv3 [h.size] fun v3 hv5 =>
              ∃ ra : Int, ∃ (raA : Option Addr) (raL raC : Nat), ∃ rb : Int, v3 = .tuple #[.agg #[.int .i64 ra, .slice raA raL raC], .int .i64 rb] ∧
              let hv6 : Heap := hv5.push (.cells #[.int .i64 0, .slice none 0 0] 26)
              let hv7 : Heap := hset (hset hv6 hv5.size 0 (.int .i64 ra)) hv5.size (0 + 1) (.slice raA raL raC)
              let hv8 : Heap := hv7.push (.cells #[.int .i64 0, .slice none 0 0] 26)
              let hv9 : Heap := hset (hset hv8 hv7.size 0 (.int .i64 ra)) hv7.size (0 + 1) (.slice raA raL raC)
              ∃ Jv : List Value → Heap → Prop, -- join 57 ['kind']
              ( cnd five
                 (callX Try.prog 33 #[.int .i64 5] hv9 [hv7.size, hv5.size, h.size] fun v4 hv10 =>
                 ∃ ra2 : Int, ∃ (raA2 : Option Addr) (raL2 raC2 : Nat), ∃ rb2 : Int, v4 = .tuple #[.agg #[.int .i64 ra2, .slice raA2 raL2 raC2], .int .i64 rb2] ∧
                 let hv11 : Heap := hset (hset hv10 hv5.size 0 (.int .i64 ra2)) hv5.size (0 + 1) (.slice raA2 raL2 raC2)
                 let hv12 : Heap := hset (hset hv11 hv7.size 0 (.int .i64 ra2)) hv7.size (0 + 1) (.slice raA2 raL2 raC2)
                 Jv [.int .i64 5, .int .i64 ra2, .slice raA2 raL2 raC2, .int .i64 ra2, .slice raA2 raL2 raC2] hv12)
                 (Jv [.int .i64 33, .int .i64 ra, .slice raA raL raC, .int .i64 ra, .slice raA raL raC] hv9)) ∧
              ∀ kind : Int, ∀ c0 : Int, ∀ (c1A : Option Addr) (c1L c1C : Nat), ∀ c0_2 : Int, ∀ (c1A2 : Option Addr) (c1L2 c1C2 : Nat), ∀ hv13, Jv [.int .i64 kind, .int .i64 c0, .slice c1A c1L c1C, .int .i64 c0_2, .slice c1A2 c1L2 c1C2] hv13 →
              ∃ (Iv : List Value → Heap → Prop) (m : List Value → Heap → Nat), Iv [.int .i64 0, .int .i64 c0, .slice c1A c1L c1C] hv13 ∧ -- loop 0: ['i']
              ∀ i : Int, ∀ c0_3 : Int, ∀ (c1A3 : Option Addr) (c1L3 c1C3 : Nat), ∀ hv14, Iv [.int .i64 i, .int .i64 c0_3, .slice c1A3 c1L3 c1C3] hv14 →
              cnd (decide (i < ((splitsL : Nat) : Int)))
                (let K2 := fun (p : Nat) (c : Int) (cA : Option Addr) (cL cC : Nat) (ev : Int) (hv21 : Heap) =>
                  (cnd (ev != (0 : Int))
                    (R (.bool false) hv21)
                    (let hv22 : Heap := hset (hset hv21 hv5.size 0 (.int .i64 c)) hv5.size (0 + 1) (.slice cA cL cC)
                    Iv [.int .i64 (IntKind.i64.wrap (i + (1 : Int))), .int .i64 c, .slice cA cL cC] hv22 ∧ m [.int .i64 (IntKind.i64.wrap (i + (1 : Int))), .int .i64 c, .slice cA cL cC] hv22 < m [.int .i64 i, .int .i64 c0_3, .slice c1A3 c1L3 c1C3] hv14))
                ∃ Mv : List Nat, (∀ b ∈ ([hv5.size, h.size, hv7.size] : List Nat), b ∉ Mv) ∧
                ∃ b o, splitsA = some ⟨b, o, none⟩ ∧ 0 ≤ i ∧ i < (splitsL : Nat) ∧ b ∉ Mv ∧ ∃ x : Int, hcell hv14 b (o + (Int.toNat i) * 1) = some (.int .u8 x) ∧ ((c1L3 : Nat) : Int) ≠ 0 ∧ (callX Try.prog 96 #[.agg #[.int .i64 c0_3, .slice c1A3 c1L3 c1C3], .int .i64 (Int.tmod (IntKind.i64.wrap x) ((c1L3 : Nat) : Int))] hv14 [hv5.size, h.size, hv7.size] fun v5 hv15 =>
                ∃ ra3 : Int, ∃ (raA3 : Option Addr) (raL3 raC3 : Nat), ∃ rb3 : Int, v5 = .tuple #[.agg #[.int .i64 ra3, .slice raA3 raL3 raC3], .int .i64 rb3] ∧
                Fr Mv hv14 hv15 ∧
                let hv16 : Heap := hv15.push (.cells #[.int .i64 0, .slice none 0 0] 26)
                Fr Mv hv14 hv16 ∧
                let hv17 : Heap := hset (hset hv16 hv15.size 0 (.int .i64 ra3)) hv15.size (0 + 1) (.slice raA3 raL3 raC3)
                Fr Mv hv14 hv17 ∧
                K2 hv15.size ra3 raA3 raL3 raC3 rb3 hv17)
                ∧ ( let hv18 : Heap := hv14.push (.cells #[.int .i64 0, .slice none 0 0] 26)
                 Fr Mv hv14 hv18 ∧
                 callX Try.prog 96 #[.agg #[.int .i64 c0_3, .slice c1A3 c1L3 c1C3], .int .i64 (Int.tmod (IntKind.i64.wrap x) ((c1L3 : Nat) : Int))] hv18 [hv14.size, hv5.size, h.size, hv7.size] fun v6 hv19 =>
                 ∃ ra4 : Int, ∃ (raA4 : Option Addr) (raL4 raC4 : Nat), ∃ rb4 : Int, v6 = .tuple #[.agg #[.int .i64 ra4, .slice raA4 raL4 raC4], .int .i64 rb4] ∧
                 Fr Mv hv14 hv19 ∧
                 let hv20 : Heap := hset (hset hv19 hv14.size 0 (.int .i64 ra4)) hv14.size (0 + 1) (.slice raA4 raL4 raC4)
                 Fr Mv hv14 hv20 ∧
                 K2 hv14.size ra4 raA4 raL4 raC4 rb4 hv20))
                (callX Try.prog 110 #[.agg #[.int .i64 c0_3, .slice c1A3 c1L3 c1C3], .agg #[.int .i64 more, .slice moreA moreL moreC]] hv14 [hv5.size, h.size, hv7.size] fun v7 hv23 =>
                ∃ ra5 : Int, ∃ (raA5 : Option Addr) (raL5 raC5 : Nat), ∃ rb5 : Int, v7 = .tuple #[.agg #[.int .i64 ra5, .slice raA5 raL5 raC5], .int .i64 rb5] ∧
                let hv24 : Heap := hv23.push (.cells #[.int .i64 0, .slice none 0 0] 26)
                let hv25 : Heap := hset (hset hv24 hv23.size 0 (.int .i64 ra5)) hv23.size (0 + 1) (.slice raA5 raL5 raC5)
                cnd (rb5 != (0 : Int))
                  (R (.bool false) hv25)
                  (∃ (Iv2 : List Value → Heap → Prop) (m2 : List Value → Heap → Nat), Iv2 [.int .i64 0, .int .i64 ra5, .slice raA5 raL5 raC5] hv25 ∧ -- loop 2: ['i']
                  ∀ i2 : Int, ∀ c0_4 : Int, ∀ (c1A4 : Option Addr) (c1L4 c1C4 : Nat), ∀ hv26, Iv2 [.int .i64 i2, .int .i64 c0_4, .slice c1A4 c1L4 c1C4] hv26 →
                  cnd (decide (i2 < ((moreL : Nat) : Int)))
                    (∃ b2 o2, moreA = some ⟨b2, o2, none⟩ ∧ 0 ≤ i2 ∧ i2 < (moreL : Nat) ∧ ∃ x2 : Int, hcell hv26 b2 ((o2 + (Int.toNat i2) * 2) + 0) = some (.int .i64 x2) ∧ c0_3 ≠ 0 ∧ ∃ b3 o3, moreA = some ⟨b3, o3, none⟩ ∧ 0 ≤ i2 ∧ i2 < (moreL : Nat) ∧ ∃ x3 : Int, hcell hv26 b3 ((o3 + (Int.toNat i2) * 2) + 1) = some (.int .i64 x3) ∧ c0_3 ≠ 0 ∧ let hv27 : Heap := hv26.push (.cells #[.int .i64 (Int.tmod x2 c0_3), .int .i64 (Int.tmod x3 c0_3)] 35)
                    Fr [] hv26 hv27 ∧
                    ∃ old, Own hv27 35 2 c1A4 c1L4 c1C4 old ∧ (∀ b ∈ ([hv26.size, hv23.size, h.size, hv5.size, hv7.size] : List Nat), b ∉ blkOf c1A4) ∧ (c1L4 + 1) * 16 ≤ 140737488355328 ∧ (c1L4 + 1) ≤ maxLen ∧
                    ∀ sA sC hv28, Own hv28 35 2 sA (c1L4 + 1) sC (old ++ [.int .i64 (Int.tmod x2 c0_3), .int .i64 (Int.tmod x3 c0_3)]) → Fr (blkOf c1A4) hv27 hv28 → ((sA = c1A4 ∧ sC = c1C4) ∨ ∃ g, sA = some ⟨g, 0, none⟩ ∧ hv27.size ≤ g) → (c1C4 < (c1L4 + 1) → Fr [] hv27 hv28) →
                    let hv29 : Heap := hset hv28 hv23.size 1 (.slice sA (c1L4 + 1) sC)
                    Iv2 [.int .i64 (IntKind.i64.wrap (i2 + (1 : Int))), .int .i64 c0_4, .slice sA (c1L4 + 1) sC] hv29 ∧ m2 [.int .i64 (IntKind.i64.wrap (i2 + (1 : Int))), .int .i64 c0_4, .slice sA (c1L4 + 1) sC] hv29 < m2 [.int .i64 i2, .int .i64 c0_4, .slice c1A4 c1L4 c1C4] hv26)
                    (callX Try.prog 111 #[.int .i64 ((c1L3 : Nat) : Int)] hv26 [hv23.size, h.size, hv5.size, hv7.size] fun v8 hv30 =>
                    ∃ (rA : Option Addr) (rL rC : Nat), v8 = .slice rA rL rC ∧
                    ((c1L3 : Nat) : Int) ≠ 0 ∧ ∃ Mv2 : List Nat, (∀ b ∈ ([hv23.size, h.size, hv5.size, hv7.size] : List Nat), b ∉ Mv2) ∧
                    0 ≤ (Int.tmod turn ((c1L3 : Nat) : Int)) ∧ (Int.tmod turn ((c1L3 : Nat) : Int)) ≤ (rL : Nat) ∧ 0 ≤ (Int.tmod turn ((c1L3 : Nat) : Int)) ∧ (Int.tmod turn ((c1L3 : Nat) : Int)) ≤ (rC : Nat) ∧ ∃ xs : List Value, Reads hv30 1 (if rC = (Int.toNat (Int.tmod turn ((c1L3 : Nat) : Int))) then rA else Option.map (fun addr => Addr.add addr ((Int.toNat (Int.tmod turn ((c1L3 : Nat) : Int))) * 1)) rA) (rL - (Int.toNat (Int.tmod turn ((c1L3 : Nat) : Int)))) xs ∧ ((if rC = (Int.toNat (Int.tmod turn ((c1L3 : Nat) : Int))) then rA else Option.map (fun addr => Addr.add addr ((Int.toNat (Int.tmod turn ((c1L3 : Nat) : Int))) * 1)) rA) = none → (rC - (Int.toNat (Int.tmod turn ((c1L3 : Nat) : Int)))) = 0) ∧ (∀ v ∈ xs, v.oneCell' = true) ∧ ∃ old2, Own hv30 3 1 none 0 0 old2 ∧ (∀ b ∈ ([hv23.size, h.size, hv5.size, hv7.size] : List Nat), b ∉ blkOf none) ∧ (0 + (rL - (Int.toNat (Int.tmod turn ((c1L3 : Nat) : Int))))) * 8 ≤ 140737488355328 ∧ (0 + (rL - (Int.toNat (Int.tmod turn ((c1L3 : Nat) : Int))))) ≤ maxLen ∧
                    ∀ sA2 sC2 hv31, Own hv31 3 1 sA2 (0 + (rL - (Int.toNat (Int.tmod turn ((c1L3 : Nat) : Int))))) sC2 (old2 ++ xs) → Fr (blkOf none) hv30 hv31 → ((sA2 = none ∧ sC2 = 0) ∨ ∃ g, sA2 = some ⟨g, 0, none⟩ ∧ hv30.size ≤ g) → (0 < (0 + (rL - (Int.toNat (Int.tmod turn ((c1L3 : Nat) : Int))))) → Fr [] hv30 hv31) →
                    Fr Mv2 hv30 hv31 ∧
                    ∃ xs2 : List Value, Reads hv31 1 (if rC = 0 then rA else Option.map (fun addr => Addr.add addr (0 * 1)) rA) ((Int.toNat (Int.tmod turn ((c1L3 : Nat) : Int))) - 0) xs2 ∧ ((if rC = 0 then rA else Option.map (fun addr => Addr.add addr (0 * 1)) rA) = none → (rC - 0) = 0) ∧ (∀ v ∈ xs2, v.oneCell' = true) ∧ ∃ old3, Own hv31 3 1 sA2 (0 + (rL - (Int.toNat (Int.tmod turn ((c1L3 : Nat) : Int))))) sC2 old3 ∧ (∀ b ∈ ([hv23.size, h.size, hv5.size, hv7.size] : List Nat), b ∉ blkOf sA2) ∧ ((0 + (rL - (Int.toNat (Int.tmod turn ((c1L3 : Nat) : Int))))) + ((Int.toNat (Int.tmod turn ((c1L3 : Nat) : Int))) - 0)) * 8 ≤ 140737488355328 ∧ ((0 + (rL - (Int.toNat (Int.tmod turn ((c1L3 : Nat) : Int))))) + ((Int.toNat (Int.tmod turn ((c1L3 : Nat) : Int))) - 0)) ≤ maxLen ∧
                    ∀ sA3 sC3 hv32, Own hv32 3 1 sA3 ((0 + (rL - (Int.toNat (Int.tmod turn ((c1L3 : Nat) : Int))))) + ((Int.toNat (Int.tmod turn ((c1L3 : Nat) : Int))) - 0)) sC3 (old3 ++ xs2) → Fr (blkOf sA2) hv31 hv32 → ((sA3 = sA2 ∧ sC3 = sC2) ∨ ∃ g, sA3 = some ⟨g, 0, none⟩ ∧ hv31.size ≤ g) → (sC2 < ((0 + (rL - (Int.toNat (Int.tmod turn ((c1L3 : Nat) : Int))))) + ((Int.toNat (Int.tmod turn ((c1L3 : Nat) : Int))) - 0)) → Fr [] hv31 hv32) →
                    Fr Mv2 hv30 hv32 ∧
                    callX Try.prog 64 #[.agg #[.int .i64 c0_4, .slice c1A4 c1L4 c1C4], .slice sA3 ((0 + (rL - (Int.toNat (Int.tmod turn ((c1L3 : Nat) : Int))))) + ((Int.toNat (Int.tmod turn ((c1L3 : Nat) : Int))) - 0)) sC3] hv32 [hv23.size, h.size, hv5.size, hv7.size] fun v9 hv33 =>
                    ∃ ra6 : Int, ∃ rb6 : Int, v9 = .tuple #[.int .i64 ra6, .int .i64 rb6] ∧
                    callX Try.prog 67 #[.agg #[.int .i64 c0_4, .slice c1A4 c1L4 c1C4], .slice sA3 ((0 + (rL - (Int.toNat (Int.tmod turn ((c1L3 : Nat) : Int))))) + ((Int.toNat (Int.tmod turn ((c1L3 : Nat) : Int))) - 0)) sC3] hv33 [hv23.size, h.size, hv5.size, hv7.size] fun v10 hv34 =>
                    ∃ ra7 : Int, ∃ (raA6 : Option Addr) (raL6 raC6 : Nat), ∃ rb7 : Int, v10 = .tuple #[.agg #[.int .i64 ra7, .slice raA6 raL6 raC6], .int .i64 rb7] ∧
                    let hv35 : Heap := hv34.push (.cells #[.int .i64 0, .slice none 0 0] 26)
                    let hv36 : Heap := hset (hset hv35 hv34.size 0 (.int .i64 ra7)) hv34.size (0 + 1) (.slice raA6 raL6 raC6)
                    let K3 := fun (hv37 : Heap) =>
                      (R (.bool false) hv37)
                    cnd (ra6 != kind)
                      (K3 hv36)
                      (cnd (rb6 != (0 : Int))
                        (K3 hv36)
                        (cnd (rb7 != (0 : Int))
                          (K3 hv36)
                          (cnd (ra7 != c0_2)
                            (K3 hv36)
                            (cnd (((raL6 : Nat) : Int) != ((c1L2 : Nat) : Int))
                              (R (.bool false) hv36)
                              (∃ (Iv3 : List Value → Heap → Prop) (m3 : List Value → Heap → Nat), Iv3 [.int .i64 0] hv36 ∧ -- loop 4: ['x']
                              ∀ x4 : Int, ∀ hv38, Iv3 [.int .i64 x4] hv38 →
                              cnd (decide (x4 < ((raL6 : Nat) : Int)))
                                (∃ b4 o4, raA6 = some ⟨b4, o4, none⟩ ∧ 0 ≤ x4 ∧ x4 < (raL6 : Nat) ∧ ∃ x5 : Int, hcell hv38 b4 (o4 + (Int.toNat x4) * 2) = some (.int .i64 x5) ∧ ∃ x6 : Int, hcell hv38 b4 ((o4 + (Int.toNat x4) * 2) + 1) = some (.int .i64 x6) ∧ ∃ b5 o5, c1A2 = some ⟨b5, o5, none⟩ ∧ 0 ≤ x4 ∧ x4 < (c1L2 : Nat) ∧ ∃ x7 : Int, hcell hv38 b5 (o5 + (Int.toNat x4) * 2) = some (.int .i64 x7) ∧ ∃ x8 : Int, hcell hv38 b5 ((o5 + (Int.toNat x4) * 2) + 1) = some (.int .i64 x8) ∧ cnd (!((x5 == x7) && (x6 == x8)))
                                  (R (.bool false) hv38)
                                  (Iv3 [.int .i64 (IntKind.i64.wrap (x4 + (1 : Int)))] hv38 ∧ m3 [.int .i64 (IntKind.i64.wrap (x4 + (1 : Int)))] hv38 < m3 [.int .i64 x4] hv38))
                                (R (.bool true) hv38)))))))))))))))
theorem calls26 {h : Heap} {R : Value → Heap → Prop} (five : Bool) (splitsA : Option Addr) (splitsL splitsC : Nat) (more : Int) (moreA : Option Addr) (moreL moreC : Nat) (turn : Int) (H : S26 five splitsA splitsL splitsC more moreA moreL moreC turn h R) : CallsH Try.prog 26 #[.bool five, .slice splitsA splitsL splitsC, .agg #[.int .i64 more, .slice moreA moreL moreC], .int .i64 turn] h R := by
  have e : S26 five splitsA splitsL splitsC more moreA moreL moreC turn h R = FX (envX [6, 9, 11, 14, 17, 24, 125] 198) { loops := [(0, ⟨[1, 3, 6, 9, 11, 12], [13], [6, 11], [9]⟩), (2, ⟨[3, 6, 9, 11, 12, 16, 17], [19], [6, 9, 11], [17]⟩), (4, ⟨[11, 24], [26], [11, 24], []⟩)], joins := [(57, ⟨[1, 3, 6, 9, 11], [12], [6], [9, 11]⟩)], blocks := [], draws := [(15, ⟨17, true⟩), (26, ⟨22, false⟩), (29, ⟨9, true⟩), (37, ⟨11, false⟩)] } Try.f26 (Try.f26.body.getD .skip) [.bool five, .slice splitsA splitsL splitsC, .agg #[.int .i64 more, .slice moreA moreL moreC], .int .i64 turn] h R := by kernel_rfl
  exact calls_of_FX (envX_ok _ _) Try.func26 (by kernel_rfl) (by kernel_rfl) (by kernel_rfl) (e ▸ H)
/-- tracery/tracerylaw12.KuraGrown -/
def Ok26 (five : Bool) (splitsV : List Int) (more : Int) (edgesV : List (Int × Int)) (turn : Int) (R : Bool → Prop) : Prop :=
  ∀ (h : Heap) (splitsA : Option Addr) (splitsL splitsC : Nat) (moreA : Option Addr) (moreL moreC : Nat), Hp h [Ck.vw (eK .u8) splitsA splitsL splitsC splitsV, Ck.vw eP moreA moreL moreC edgesV] → CallsH Try.prog 26 #[.bool five, .slice splitsA splitsL splitsC, .agg #[.int .i64 more, .slice moreA moreL moreC], .int .i64 turn] h fun v h' => ∃ (rV : Bool), Sy h [] h' [] ∧ v = .bool rV ∧ R rV
theorem Ok26.mono {five splitsV more edgesV turn} {R R' : Bool → Prop} (H : Ok26 five splitsV more edgesV turn R) (kz : ∀ rV, R rV → R' rV) : Ok26 five splitsV more edgesV turn R' :=
  fun h splitsA splitsL splitsC moreA moreL moreC hp => (H h splitsA splitsL splitsC moreA moreL moreC hp).mono fun _ _ ⟨rV, P, e, q⟩ => ⟨rV, P, e, kz _ q⟩
def T26 (five : Bool) (splitsV : List Int) (more : Int) (edgesV : List (Int × Int)) (turn : Int) (R : Bool → Prop) : Prop :=
  Ok58 (fun r =>
  cnd (!r)
    (R false)
    (∃ Jv_2 : Prop,
    ( Ok43 more edgesV (fun r2 =>
     cnd (!r2)
       (Jv_2)
       (cnd (decide (more > (50 : Int)))
         (Jv_2)
         (cnd (decide (((edgesV.length : Nat) : Int) > (60 : Int)))
           (Jv_2)
           (cnd (decide (((splitsV.length : Nat) : Int) > (60 : Int)))
             (Jv_2)
             (cnd (decide (turn < (0 : Int)))
               (R true)
               (Ok34 3 3 (fun ra ra_2 rb =>
               ∃ Jv : Int → Int → List (Int × Int) → Int → List (Int × Int) → Prop,
               ( cnd five
                  (Ok33 5 (fun ra2 ra_3 rb2 =>
                  Jv 5 ra2 ra_3 ra2 ra_3))
                  (Jv 33 ra ra_2 ra ra_2)) ∧
               ∀ kind : Int, ∀ c0 : Int, ∀ c1 : List (Int × Int), ∀ c0_2 : Int, ∀ c1_2 : List (Int × Int), Jv kind c0 c1 c0_2 c1_2 →
               ∃ (Iv : Int → Int → List (Int × Int) → Prop) (m : Int → Int → List (Int × Int) → Nat), Iv 0 c0 c1 ∧
               ∀ i : Int, ∀ c0_3 : Int, ∀ c1_3 : List (Int × Int), Iv i c0_3 c1_3 →
               cnd (decide (i < ((splitsV.length : Nat) : Int)))
                 (∃ Jv_3 : Int → List (Int × Int) → Int → Prop,
                 ( 0 ≤ i ∧ i < ((splitsV.length : Nat) : Int) ∧ ∀ splits : Int, splitsV[(Int.toNat i)]? = some splits → ((c1_3.length : Nat) : Int) ≠ 0 ∧ Ok96 c0_3 c1_3 (Int.tmod (IntKind.i64.wrap splits) ((c1_3.length : Nat) : Int)) (fun ra3 ra_4 rb3 =>
                  Jv_3 ra3 ra_4 rb3)) ∧
                 ∀ c : Int, ∀ c_2 : List (Int × Int), ∀ ev : Int, Jv_3 c c_2 ev →
                 cnd (ev != (0 : Int))
                   (R false)
                   (Iv (IntKind.i64.wrap (i + (1 : Int))) c c_2 ∧ m (IntKind.i64.wrap (i + (1 : Int))) c c_2 < m i c0_3 c1_3))
                 (Ok110 c0_3 c1_3 more edgesV (fun ra5 ra_6 rb5 =>
                 cnd (rb5 != (0 : Int))
                   (R false)
                   (∃ (Iv2 : Int → Int → List (Int × Int) → Prop) (m2 : Int → Int → List (Int × Int) → Nat), Iv2 0 ra5 ra_6 ∧
                   ∀ i2 : Int, ∀ c0_4 : Int, ∀ c1_4 : List (Int × Int), Iv2 i2 c0_4 c1_4 →
                   cnd (decide (i2 < ((edgesV.length : Nat) : Int)))
                     (0 ≤ i2 ∧ i2 < ((edgesV.length : Nat) : Int) ∧ ∀ more_2 : (Int × Int), edgesV[(Int.toNat i2)]? = some more_2 → c0_3 ≠ 0 ∧ c0_3 ≠ 0 ∧ (c1_4.length + 1) < 1000000000000 ∧ Iv2 (IntKind.i64.wrap (i2 + (1 : Int))) c0_4 (c1_4 ++ [((Int.tmod more_2.1 c0_3), (Int.tmod more_2.2 c0_3))]) ∧ m2 (IntKind.i64.wrap (i2 + (1 : Int))) c0_4 (c1_4 ++ [((Int.tmod more_2.1 c0_3), (Int.tmod more_2.2 c0_3))]) < m2 i2 c0_4 c1_4)
                     (Ok111 ((c1_3.length : Nat) : Int) (fun r_2 =>
                     ((c1_3.length : Nat) : Int) ≠ 0 ∧ 0 ≤ (Int.tmod turn ((c1_3.length : Nat) : Int)) ∧ (Int.tmod turn ((c1_3.length : Nat) : Int)) ≤ ((r_2.length : Nat) : Int) ∧ 0 ≤ (Int.tmod turn ((c1_3.length : Nat) : Int)) ∧ (Int.tmod turn ((c1_3.length : Nat) : Int)) ≤ ((r_2.length : Nat) : Int) ∧ (0 + (r_2.length - (Int.toNat (Int.tmod turn ((c1_3.length : Nat) : Int))))) < 1000000000000 ∧ ((0 + (r_2.length - (Int.toNat (Int.tmod turn ((c1_3.length : Nat) : Int))))) + ((Int.toNat (Int.tmod turn ((c1_3.length : Nat) : Int))) - 0)) < 1000000000000 ∧ Ok64 c0_4 c1_4 ((([] : List Int) ++ (r_2.drop (Int.toNat (Int.tmod turn ((c1_3.length : Nat) : Int))))) ++ (r_2.take (Int.toNat (Int.tmod turn ((c1_3.length : Nat) : Int))))) (fun ra6 rb6 =>
                     Ok67 c0_4 c1_4 ((([] : List Int) ++ (r_2.drop (Int.toNat (Int.tmod turn ((c1_3.length : Nat) : Int))))) ++ (r_2.take (Int.toNat (Int.tmod turn ((c1_3.length : Nat) : Int))))) (fun ra7 ra_7 rb7 =>
                     ∃ Jv_4 : Prop,
                     ( cnd (ra6 != kind)
                        (Jv_4)
                        (cnd (rb6 != (0 : Int))
                          (Jv_4)
                          (cnd (rb7 != (0 : Int))
                            (Jv_4)
                            (cnd (ra7 != c0_2)
                              (Jv_4)
                              (cnd (((ra_7.length : Nat) : Int) != ((c1_2.length : Nat) : Int))
                                (R false)
                                (∃ (Iv3 : Int → Prop) (m3 : Int → Nat), Iv3 0 ∧
                                ∀ x4 : Int, Iv3 x4 →
                                cnd (decide (x4 < ((ra_7.length : Nat) : Int)))
                                  (0 ≤ x4 ∧ x4 < ((ra_7.length : Nat) : Int) ∧ ∀ ra_8 : (Int × Int), ra_7[(Int.toNat x4)]? = some ra_8 → 0 ≤ x4 ∧ x4 < ((c1_2.length : Nat) : Int) ∧ ∀ c_3 : (Int × Int), c1_2[(Int.toNat x4)]? = some c_3 → cnd (!((ra_8.1 == c_3.1) && (ra_8.2 == c_3.2)))
                                    (R false)
                                    (Iv3 (IntKind.i64.wrap (x4 + (1 : Int))) ∧ m3 (IntKind.i64.wrap (x4 + (1 : Int))) < m3 x4))
                                  (R true))))))) ∧
                     (Jv_4 →
                     R false)))))))))))))))) ∧
    (Jv_2 →
    R true)))
theorem ok26 {five splitsV more edgesV turn} {R : Bool → Prop} (T : T26 five splitsV more edgesV turn R) : Ok26 five splitsV more edgesV turn R := by
  intro h splitsA splitsL splitsC moreA moreL moreC H
  have Y : Sy h [] h _ := Sy.startM H rfl
  obtain rfl := Y.lenV 0 rfl
  obtain rfl := Y.lenV 1 rfl
  apply calls26
  unfold S26
  unfold T26 at T
  intro hv
  have Y : Sy _ _ hv [_, _, _] := Y.junk _
  clear_value hv
  refine callX_sy (T _ (Hp.nil _)) (fun _ _ ⟨_, p, _⟩ => p.fr) (allc (fun h => by cases h) alln) ?_
  rintro v hv2 ⟨r, PP, rfl, T⟩
  have Y : Sy _ _ hv2 [_, _, _] := Y.gr PP.fr
  clear PP
  refine ⟨r, rfl, ?_⟩
  refine cnd_imp T (fun T => ?_) (fun T => ?_)
  · exact ⟨_, Y.pick [] rfl, rfl, T⟩
  · obtain ⟨Jv_2, T0, T1⟩ := T
    obtain ⟨B, hB, _⟩ := Y.cut [] [0, 1, 2] rfl
    intro K
    have hK : ∀  (hv4 : Heap), (Sy h [] hv4 ([] ++ B) ∧ Jv_2) → K hv4 := by
      subst hB
      clear T0 Y
      rintro hv4 ⟨Y, T⟩
      replace T := T1 T
      have Y : Sy _ _ _ [_, _, _] := Y
      unfold K
      exact ⟨_, Y.pick [] rfl, rfl, T⟩
    subst hB
    replace T := T0
    clear T0 T1
    refine callX_sy (T _ _ _ _ (Y.pick [1] rfl).hp) (fun _ _ ⟨_, p, _⟩ => p.fr) (allc (fun h => by cases h) alln) ?_
    rintro v2 hv3 ⟨r2, PP, rfl, T⟩
    have Y : Sy _ _ hv3 [_, _, _] := Y.gr PP.fr
    clear PP
    refine ⟨r2, rfl, ?_⟩
    refine cnd_imp T (fun T => ?_) (fun T => ?_)
    · exact hK _ ⟨Y.pick [0, 1, 2] rfl, T⟩
    · refine cnd_imp T (fun T => ?_) (fun T => ?_)
      · exact hK _ ⟨Y.pick [0, 1, 2] rfl, T⟩
      · refine cnd_imp T (fun T => ?_) (fun T => ?_)
        · exact hK _ ⟨Y.pick [0, 1, 2] rfl, T⟩
        · refine cnd_imp T (fun T => ?_) (fun T => ?_)
          · exact hK _ ⟨Y.pick [0, 1, 2] rfl, T⟩
          · refine cnd_imp T (fun T => ?_) (fun T => ?_)
            · exact ⟨_, Y.pick [] rfl, rfl, T⟩
            · refine callX_sy (T _ (Hp.nil _)) (fun _ _ ⟨_, _, _, _, _, _, p, _⟩ => p.fr) (allc (fun h => by cases h) alln) ?_
              rintro v3 hv5 ⟨ra, raA, raL, raC, ra_2, rb, PP, rfl, T⟩
              have Y : Sy _ _ hv5 [_, _, _, _] := Y.callV PP ⟨rfl, trivial⟩
              clear PP
              obtain rfl := Y.lenS 3 rfl
              refine ⟨ra, _, _, _, rb, rfl, ?_⟩
              intro hv6
              have Y : Sy _ _ hv6 [_, _, _, _, _] := Y.junk _
              clear_value hv6
              intro hv7
              have Y : Sy _ _ hv7 [_, _, _, _, _] := ((Y.stJ 4 rfl _ _).stJ 4 rfl _ _)
              clear_value hv7
              intro hv8
              have Y : Sy _ _ hv8 [_, _, _, _, _, _] := Y.junk _
              clear_value hv8
              intro hv9
              have Y : Sy _ _ hv9 [_, _, _, _, _, _] := ((Y.stJ 5 rfl _ _).stJ 5 rfl _ _)
              clear_value hv9
              obtain ⟨Jv, T0, T1⟩ := T
              obtain ⟨B_2, hB_2, _⟩ := Y.cut [] [0, 1, 2, 4, 5] rfl
              refine ⟨fun lz h' => ∃ (kind : Int) (c0 : Int) (c1A : Option Addr) (c1L c1C : Nat) (c1 : List (Int × Int)) (c0_2 : Int) (c1A2 : Option Addr) (c1L2 c1C2 : Nat) (c1_2 : List (Int × Int)), lz = [.int .i64 kind, .int .i64 c0, .slice c1A c1L c1C, .int .i64 c0_2, .slice c1A2 c1L2 c1C2] ∧ Sy h [] h' ([Ck.vw eP c1A c1L c1C c1, Ck.vw eP c1A2 c1L2 c1C2 c1_2] ++ B_2) ∧ Jv kind c0 c1 c0_2 c1_2, ?_, ?_⟩
              · subst hB_2
                replace T := T0
                clear T0 T1
                refine cnd_imp T (fun T => ?_) (fun T => ?_)
                · refine callX_sy (T _ (Hp.nil _)) (fun _ _ ⟨_, _, _, _, _, _, p, _⟩ => p.fr) (allc (fun h => by cases h) (allc (fun h => by cases h) (allc (fun h => by cases h) alln))) ?_
                  rintro v4 hv10 ⟨ra2, raA2, raL2, raC2, ra_3, rb2, PP, rfl, T⟩
                  have Y : Sy _ _ hv10 [_, _, _, _, _, _, _] := Y.callV PP ⟨rfl, trivial⟩
                  clear PP
                  obtain rfl := Y.lenS 6 rfl
                  refine ⟨ra2, _, _, _, rb2, rfl, ?_⟩
                  intro hv11
                  have Y : Sy _ _ hv11 [_, _, _, _, _, _, _] := ((Y.stJ 4 rfl _ _).stJ 4 rfl _ _)
                  clear_value hv11
                  intro hv12
                  have Y : Sy _ _ hv12 [_, _, _, _, _, _, _] := ((Y.stJ 5 rfl _ _).stJ 5 rfl _ _)
                  clear_value hv12
                  have Y : Sy _ _ _ [_, _, _, _, _, _, _] := Y.turn 6 rfl To.slvw
                  have Y : Sy _ _ _ [_, _, _, _, _, _, _, _] := Y.dup 6 rfl rfl
                  exact ⟨_, _, _, _, _, _, _, _, _, _, _, rfl, Y.pick [7, 0, 1, 2, 3, 5, 6] rfl, T⟩
                · have Y : Sy _ _ _ [_, _, _, _, _, _] := Y.turn 3 rfl To.slvw
                  have Y : Sy _ _ _ [_, _, _, _, _, _, _] := Y.dup 3 rfl rfl
                  exact ⟨_, _, _, _, _, _, _, _, _, _, _, rfl, Y.pick [4, 0, 1, 2, 3, 5, 6] rfl, T⟩
              · subst hB_2
                clear T0 Y
                rintro kind c0 c1A c1L c1C c0_2 c1A2 c1L2 c1C2 hv13 ⟨kind, c0, c1A, c1L, c1C, c1, c0_2, c1A2, c1L2, c1C2, c1_2, e, Y, T⟩
                cases e
                obtain rfl := Y.lenV 0 rfl
                obtain rfl := Y.lenV 1 rfl
                replace T := T1 kind c0 c1 c0_2 c1_2 T
                have Y : Sy _ _ _ [_, _, _, _, _, _, _] := Y
                obtain ⟨Iv, m, T0, T1⟩ := T
                obtain ⟨B_3, hB_3, YB⟩ := Y.cut [0] [1, 2, 3, 4, 5, 6] rfl
                obtain ⟨JJ, hJJ⟩ : ∃ JJ : Nat → List Value → Heap → Prop, JJ = (fun k lz h' => ∃ (i : Int) (c0_3 : Int) (c1A3 : Option Addr) (c1L3 c1C3 : Nat) (c1_3 : List (Int × Int)), lz = [.int .i64 i, .int .i64 c0_3, .slice c1A3 c1L3 c1C3] ∧ Sy h [] h' ([Ck.vw eP c1A3 c1L3 c1C3 c1_3] ++ B_3) ∧ Iv i c0_3 c1_3 ∧ m i c0_3 c1_3 = k) := ⟨_, rfl⟩
                refine ⟨fun lz h' => ∃ k, JJ k lz h', Lm JJ, ?_, ?_⟩
                · subst hJJ hB_3
                  exact ⟨_, _, _, _, _, _, _, rfl, YB, T0, rfl⟩
                · clear YB T0 Y
                  intro i c0_3 c1A3 c1L3 c1C3 hv14 hI
                  obtain ⟨k, hI, hm⟩ := loopIn hI
                  subst hJJ hB_3
                  obtain ⟨i, c0_3, c1A3, c1L3, c1C3, c1_3, e, Y, T, rfl⟩ := hI
                  cases e
                  obtain rfl := Y.lenV 0 rfl
                  replace T := T1 i c0_3 c1_3 T
                  have Y : Sy _ _ _ [_, _, _, _, _, _, _] := Y
                  refine cnd_imp T (fun T => ?_) (fun T => ?_)
                  · obtain ⟨Jv_3, T0, T1⟩ := T
                    obtain ⟨B_4, hB_4, _⟩ := Y.cut [] [0, 1, 2, 3, 4, 5, 6] rfl
                    intro K2
                    have hK2 : ∀ (p : Nat) (c : Int) (cA : Option Addr) (cL cC : Nat) (ev : Int) (hv21 : Heap), (∃ (c_2 : List (Int × Int)), Sy h [] hv21 ([Ck.sl eP 35 cA cL cC c_2, Ck.junk p] ++ B_4) ∧ Jv_3 c c_2 ev) → K2 p c cA cL cC ev hv21 := by
                      subst hB_4
                      clear T0 Y
                      rintro p c cA cL cC ev hv21 ⟨c_2, Y, T⟩
                      obtain rfl := Y.lenS 0 rfl
                      replace T := T1 c c_2 ev T
                      have Y : Sy _ _ _ [_, _, _, _, _, _, _, _, _] := Y
                      unfold K2
                      refine cnd_imp T (fun T => ?_) (fun T => ?_)
                      · exact ⟨_, Y.pick [] rfl, rfl, T⟩
                      · intro hv22
                        have Y : Sy _ _ hv22 [_, _, _, _, _, _, _, _, _] := ((Y.stJ 7 rfl _ _).stJ 7 rfl _ _)
                        clear_value hv22
                        have Y : Sy _ _ _ [_, _, _, _, _, _, _, _, _] := Y.turn 0 rfl To.slvw
                        exact loopBack hm ⟨_, _, _, _, _, _, rfl, Y.pick [0, 3, 4, 5, 6, 7, 8] rfl, T.1, rfl⟩ T.2
                    subst hB_4
                    replace T := T0
                    clear T0 T1
                    have Y0 := Y
                    obtain ⟨Mx, hMx⟩ := Y.mt [] []
                    refine ⟨Mx, ?_⟩
                    subst hMx
                    refine ⟨(allc (Y0.nMJ 5 [] [] rfl rfl) (allc (Y0.nMJ 4 [] [] rfl rfl) (allc (Y0.nMJ 6 [] [] rfl rfl) alln))), ?_⟩
                    have F : Fr _ hv14 hv14 := Y0.frM [] []
                    obtain ⟨q, q_2, T⟩ := T
                    obtain ⟨b_2, o_2, hb, hr, splits, hx⟩ := Y0.atV 2 rfl q q_2
                    refine ⟨b_2, o_2, hb, q, q_2, ?_⟩
                    refine ⟨(Y0.nMv 2 [] [] rfl rfl hr), ?_⟩
                    replace T := T splits hx
                    refine ⟨_, Y0.cellV 2 rfl hb (t := 0) hx rfl, ?_⟩
                    obtain ⟨q_3, T⟩ := T
                    refine ⟨q_3, ?_⟩
                    refine ⟨?_, ?_⟩
                    · refine callX_sy (T _ _ _ _ (Y.pick [0] rfl).hp) (fun _ _ ⟨_, _, _, _, _, _, p, _⟩ => p.fr) (allc (fun h => by cases h) (allc (fun h => by cases h) (allc (fun h => by cases h) alln))) ?_
                      rintro v5 hv15 ⟨ra3, raA3, raL3, raC3, ra_4, rb3, PP, rfl, T⟩
                      have F : Fr _ _ hv15 := F.trans PP.fr.nil
                      have fshv15 := F.size
                      have Y : Sy _ _ hv15 [_, _, _, _, _, _, _, _] := Y.callV PP ⟨rfl, trivial⟩
                      clear PP
                      obtain rfl := Y.lenS 7 rfl
                      refine ⟨ra3, _, _, _, rb3, rfl, ?_⟩
                      refine ⟨F, ?_⟩
                      intro hv16
                      have Y : Sy _ _ hv16 [_, _, _, _, _, _, _, _, _] := Y.junk _
                      have F : Fr _ _ hv16 := F.pushr _
                      have fshv16 := F.size
                      clear_value hv16
                      refine ⟨F, ?_⟩
                      intro hv17
                      have Y : Sy _ _ hv17 [_, _, _, _, _, _, _, _, _] := ((Y.stJ 8 rfl _ _).stJ 8 rfl _ _)
                      have F : Fr _ _ hv17 := ((F.hsetr (.inl fshv15)).hsetr (.inl fshv15))
                      clear_value hv17
                      refine ⟨F, ?_⟩
                      exact hK2 _ _ _ _ _ _ _ ⟨_, Y.pick [7, 8, 0, 1, 2, 3, 4, 5, 6] rfl, T⟩
                    · intro hv18
                      have Y : Sy _ _ hv18 [_, _, _, _, _, _, _, _] := Y.junk _
                      have F : Fr _ _ hv18 := F.pushr _
                      have fshv18 := F.size
                      clear_value hv18
                      refine ⟨F, ?_⟩
                      refine callX_sy (T _ _ _ _ (Y.pick [0] rfl).hp) (fun _ _ ⟨_, _, _, _, _, _, p, _⟩ => p.fr) (allc (fun h => by cases h) (allc (fun h => by cases h) (allc (fun h => by cases h) (allc (fun h => by cases h) alln)))) ?_
                      rintro v6 hv19 ⟨ra4, raA4, raL4, raC4, ra_5, rb4, PP, rfl, T⟩
                      have F : Fr _ _ hv19 := F.trans PP.fr.nil
                      have fshv19 := F.size
                      have Y : Sy _ _ hv19 [_, _, _, _, _, _, _, _, _] := Y.callV PP ⟨rfl, trivial⟩
                      clear PP
                      obtain rfl := Y.lenS 8 rfl
                      refine ⟨ra4, _, _, _, rb4, rfl, ?_⟩
                      refine ⟨F, ?_⟩
                      intro hv20
                      have Y : Sy _ _ hv20 [_, _, _, _, _, _, _, _, _] := ((Y.stJ 7 rfl _ _).stJ 7 rfl _ _)
                      have F : Fr _ _ hv20 := ((F.hsetr (.inl (Nat.le_refl _))).hsetr (.inl (Nat.le_refl _)))
                      clear_value hv20
                      refine ⟨F, ?_⟩
                      exact hK2 _ _ _ _ _ _ _ ⟨_, Y.pick [8, 7, 0, 1, 2, 3, 4, 5, 6] rfl, T⟩
                  · refine callX_sy (T _ _ _ _ _ _ _ (Y.pick [0, 3] rfl).hp) (fun _ _ ⟨_, _, _, _, _, _, p, _⟩ => p.fr) (allc (fun h => by cases h) (allc (fun h => by cases h) (allc (fun h => by cases h) alln))) ?_
                    rintro v7 hv23 ⟨ra5, raA5, raL5, raC5, ra_6, rb5, PP, rfl, T⟩
                    have Y : Sy _ _ hv23 [_, _, _, _, _, _, _, _] := Y.callV PP ⟨rfl, trivial⟩
                    clear PP
                    obtain rfl := Y.lenS 7 rfl
                    refine ⟨ra5, _, _, _, rb5, rfl, ?_⟩
                    intro hv24
                    have Y : Sy _ _ hv24 [_, _, _, _, _, _, _, _, _] := Y.junk _
                    clear_value hv24
                    intro hv25
                    have Y : Sy _ _ hv25 [_, _, _, _, _, _, _, _, _] := ((Y.stJ 8 rfl _ _).stJ 8 rfl _ _)
                    clear_value hv25
                    refine cnd_imp T (fun T => ?_) (fun T => ?_)
                    · exact ⟨_, Y.pick [] rfl, rfl, T⟩
                    · obtain ⟨Iv2, m2, T0, T1⟩ := T
                      obtain ⟨B_5, hB_5, YB⟩ := Y.cut [7] [0, 1, 2, 3, 4, 5, 6, 8] rfl
                      obtain ⟨JJ_2, hJJ_2⟩ : ∃ JJ_2 : Nat → List Value → Heap → Prop, JJ_2 = (fun k_2 lz h' => ∃ (i2 : Int) (c0_4 : Int) (c1A4 : Option Addr) (c1L4 c1C4 : Nat) (c1_4 : List (Int × Int)), lz = [.int .i64 i2, .int .i64 c0_4, .slice c1A4 c1L4 c1C4] ∧ Sy h [] h' ([Ck.sl eP 35 c1A4 c1L4 c1C4 c1_4] ++ B_5) ∧ Iv2 i2 c0_4 c1_4 ∧ m2 i2 c0_4 c1_4 = k_2) := ⟨_, rfl⟩
                      refine ⟨fun lz h' => ∃ k_2, JJ_2 k_2 lz h', Lm JJ_2, ?_, ?_⟩
                      · subst hJJ_2 hB_5
                        exact ⟨_, _, _, _, _, _, _, rfl, YB, T0, rfl⟩
                      · clear YB T0 Y
                        intro i2 c0_4 c1A4 c1L4 c1C4 hv26 hI
                        obtain ⟨k_2, hI, hm_2⟩ := loopIn hI
                        subst hJJ_2 hB_5
                        obtain ⟨i2, c0_4, c1A4, c1L4, c1C4, c1_4, e, Y, T, rfl⟩ := hI
                        cases e
                        obtain rfl := Y.lenS 0 rfl
                        replace T := T1 i2 c0_4 c1_4 T
                        have Y : Sy _ _ _ [_, _, _, _, _, _, _, _, _] := Y
                        refine cnd_imp T (fun T => ?_) (fun T => ?_)
                        · have Y0 := Y
                          have F : Fr [] hv26 hv26 := Fr.refl _ _
                          obtain ⟨q_4, q_5, T⟩ := T
                          obtain ⟨b_3, o_3, hb_2, hr_2, more_2, hx_2⟩ := Y0.atV 4 rfl q_4 q_5
                          refine ⟨b_3, o_3, hb_2, q_4, q_5, ?_⟩
                          replace T := T more_2 hx_2
                          refine ⟨_, Y0.cellV 4 rfl hb_2 (t := 0) hx_2 rfl, ?_⟩
                          obtain ⟨q_8, T⟩ := T
                          refine ⟨q_8, ?_⟩
                          refine ⟨b_3, o_3, hb_2, q_4, q_5, ?_⟩
                          refine ⟨_, Y0.cellV 4 rfl hb_2 (t := 1) hx_2 rfl, ?_⟩
                          obtain ⟨q_7, T⟩ := T
                          refine ⟨q_7, ?_⟩
                          intro hv27
                          have Y : Sy _ _ hv27 [_, _, _, _, _, _, _, _, _, _] := Y.junk _
                          have F : Fr _ _ hv27 := F.pushr _
                          have fshv27 := F.size
                          clear_value hv27
                          refine ⟨F, ?_⟩
                          obtain ⟨q_6, T⟩ := T
                          refine ⟨_, Y.ownS 0 rfl, (allc (Y.nJ 0 9 rfl rfl rfl) (allc (Y.nJ 0 8 rfl rfl rfl) (allc (Y.nJ 0 5 rfl rfl rfl) (allc (Y.nJ 0 6 rfl rfl rfl) (allc (Y.nJ 0 7 rfl rfl rfl) alln))))), by first | exact appB q_6 (by decide) | omega, by first | exact appM q_6 | (simp [maxLen]; omega), ?_⟩
                          intro sA sC hv28 ow fA gA gB
                          have Y : Sy _ _ hv28 [_, _, _, _, _, _, _, _, _, _] := Y.appS 0 rfl ([((Int.tmod more_2.1 c0_3), (Int.tmod more_2.2 c0_3))] : List (Int × Int)) ow fA gA rfl rfl
                          intro hv29
                          have Y : Sy _ _ hv29 [_, _, _, _, _, _, _, _, _, _] := (Y.stJ 8 rfl _ _)
                          clear_value hv29
                          exact loopBack hm_2 ⟨_, _, _, _, _, _, rfl, Y.pick [0, 1, 2, 3, 4, 5, 6, 7, 8] rfl, T.1, rfl⟩ T.2
                        · refine callX_sy (T _ (Hp.nil _)) (fun _ _ ⟨_, _, _, _, p, _⟩ => p.fr) (allc (fun h => by cases h) (allc (fun h => by cases h) (allc (fun h => by cases h) (allc (fun h => by cases h) alln)))) ?_
                          rintro v8 hv30 ⟨rA, rL, rC, r_2, PP, rfl, T⟩
                          have Y : Sy _ _ hv30 [_, _, _, _, _, _, _, _, _, _] := Y.callV PP ⟨rfl, trivial⟩
                          clear PP
                          obtain rfl := Y.lenS 9 rfl
                          refine ⟨_, _, _, rfl, ?_⟩
                          obtain ⟨q_19, T⟩ := T
                          refine ⟨q_19, ?_⟩
                          have Y0 := Y
                          obtain ⟨Mx_2, hMx_2⟩ := Y.mt [] []
                          refine ⟨Mx_2, ?_⟩
                          subst hMx_2
                          refine ⟨(allc (Y0.nMJ 8 [] [] rfl rfl) (allc (Y0.nMJ 5 [] [] rfl rfl) (allc (Y0.nMJ 6 [] [] rfl rfl) (allc (Y0.nMJ 7 [] [] rfl rfl) alln)))), ?_⟩
                          have F : Fr _ hv30 hv30 := Y0.frM [] []
                          obtain ⟨q_9, q_10, T⟩ := T
                          refine ⟨q_9, q_10, ?_⟩
                          obtain ⟨q_11, q_12, T⟩ := T
                          refine ⟨q_11, (by have := (Y.capS 9 rfl).1; omega), ?_⟩
                          try rw [slice0]
                          refine ⟨_, ((Y.readsS 9 rfl)).dropR (Int.toNat (Int.tmod turn ((c1_3.length : Nat) : Int))) (by omega) (Y.capS 9 rfl).1 (Y.capS 9 rfl).2.2 (by omega), dropNc (Y.capS 9 rfl).2.2, En.l_one _, ?_⟩
                          have Y : Sy _ _ _ [_, _, _, _, _, _, _, _, _, _, _] := Y.nilS eI 3
                          obtain ⟨q_13, T⟩ := T
                          refine ⟨_, Y.ownS 10 rfl, (allc (Y.nJ 10 8 rfl rfl rfl) (allc (Y.nJ 10 5 rfl rfl rfl) (allc (Y.nJ 10 6 rfl rfl rfl) (allc (Y.nJ 10 7 rfl rfl rfl) alln)))), by first | exact appB q_13 (by decide) | omega, by first | exact appM q_13 | (simp [maxLen]; omega), ?_⟩
                          intro sA2 sC2 hv31 ow fA gA gB
                          have Y : Sy _ _ hv31 [_, _, _, _, _, _, _, _, _, _, _] := Y.appS 10 rfl (r_2.drop (Int.toNat (Int.tmod turn ((c1_3.length : Nat) : Int)))) ow fA gA rfl (by simp <;> omega)
                          have ns := F.appIn nil_in gA (Nat.le_refl _)
                          have F : Fr _ _ hv31 := F.comp fA nil_in
                          have fshv31 := F.size
                          refine ⟨F, ?_⟩
                          refine ⟨_, (Y.readsS 9 rfl).takeR (Int.toNat (Int.tmod turn ((c1_3.length : Nat) : Int))) (by omega), (Y.capS 9 rfl).2.2, En.l_one _, ?_⟩
                          obtain ⟨q_14, T⟩ := T
                          refine ⟨_, Y.ownS 10 rfl, (allc (Y.nJ 10 8 rfl rfl rfl) (allc (Y.nJ 10 5 rfl rfl rfl) (allc (Y.nJ 10 6 rfl rfl rfl) (allc (Y.nJ 10 7 rfl rfl rfl) alln)))), by first | exact appB q_14 (by decide) | omega, by first | exact appM q_14 | (simp [maxLen]; omega), ?_⟩
                          intro sA3 sC3 hv32 ow fA gA gB
                          have Y : Sy _ _ hv32 [_, _, _, _, _, _, _, _, _, _, _] := Y.appS 10 rfl (r_2.take (Int.toNat (Int.tmod turn ((c1_3.length : Nat) : Int)))) ow fA gA rfl (by simp <;> omega)
                          have ns_2 := F.appIn ns gA fshv31
                          have F : Fr _ _ hv32 := F.comp fA ns
                          have fshv32 := F.size
                          refine ⟨F, ?_⟩
                          refine callX_sy (T _ _ _ _ _ _ _ (((Y.turn 0 rfl To.slvw).turn 10 rfl To.slvw).pick [0, 10] rfl).hp) (fun _ _ ⟨_, _, p, _⟩ => p.fr) (allc (fun h => by cases h) (allc (fun h => by cases h) (allc (fun h => by cases h) (allc (fun h => by cases h) alln)))) ?_
                          rintro v9 hv33 ⟨ra6, rb6, PP, rfl, T⟩
                          have Y : Sy _ _ hv33 [_, _, _, _, _, _, _, _, _, _, _] := Y.gr PP.fr
                          clear PP
                          refine ⟨ra6, rb6, rfl, ?_⟩
                          refine callX_sy (T _ _ _ _ _ _ _ (((Y.turn 0 rfl To.slvw).turn 10 rfl To.slvw).pick [0, 10] rfl).hp) (fun _ _ ⟨_, _, _, _, _, _, p, _⟩ => p.fr) (allc (fun h => by cases h) (allc (fun h => by cases h) (allc (fun h => by cases h) (allc (fun h => by cases h) alln)))) ?_
                          rintro v10 hv34 ⟨ra7, raA6, raL6, raC6, ra_7, rb7, PP, rfl, T⟩
                          have Y : Sy _ _ hv34 [_, _, _, _, _, _, _, _, _, _, _, _] := Y.callV PP ⟨rfl, trivial⟩
                          clear PP
                          obtain rfl := Y.lenS 11 rfl
                          refine ⟨ra7, _, _, _, rb7, rfl, ?_⟩
                          intro hv35
                          have Y : Sy _ _ hv35 [_, _, _, _, _, _, _, _, _, _, _, _, _] := Y.junk _
                          clear_value hv35
                          intro hv36
                          have Y : Sy _ _ hv36 [_, _, _, _, _, _, _, _, _, _, _, _, _] := ((Y.stJ 12 rfl _ _).stJ 12 rfl _ _)
                          clear_value hv36
                          obtain ⟨Jv_4, T0, T1⟩ := T
                          obtain ⟨B_6, hB_6, _⟩ := Y.cut [] [0, 1, 2, 3, 4, 5, 6, 7, 8, 9, 10, 11, 12] rfl
                          intro K3
                          have hK3 : ∀  (hv37 : Heap), (Sy h [] hv37 ([] ++ B_6) ∧ Jv_4) → K3 hv37 := by
                            subst hB_6
                            clear T0 Y
                            rintro hv37 ⟨Y, T⟩
                            replace T := T1 T
                            have Y : Sy _ _ _ [_, _, _, _, _, _, _, _, _, _, _, _, _] := Y
                            unfold K3
                            exact ⟨_, Y.pick [] rfl, rfl, T⟩
                          subst hB_6
                          replace T := T0
                          clear T0 T1
                          refine cnd_imp T (fun T => ?_) (fun T => ?_)
                          · exact hK3 _ ⟨Y.pick [0, 1, 2, 3, 4, 5, 6, 7, 8, 9, 10, 11, 12] rfl, T⟩
                          · refine cnd_imp T (fun T => ?_) (fun T => ?_)
                            · exact hK3 _ ⟨Y.pick [0, 1, 2, 3, 4, 5, 6, 7, 8, 9, 10, 11, 12] rfl, T⟩
                            · refine cnd_imp T (fun T => ?_) (fun T => ?_)
                              · exact hK3 _ ⟨Y.pick [0, 1, 2, 3, 4, 5, 6, 7, 8, 9, 10, 11, 12] rfl, T⟩
                              · refine cnd_imp T (fun T => ?_) (fun T => ?_)
                                · exact hK3 _ ⟨Y.pick [0, 1, 2, 3, 4, 5, 6, 7, 8, 9, 10, 11, 12] rfl, T⟩
                                · refine cnd_imp T (fun T => ?_) (fun T => ?_)
                                  · exact ⟨_, Y.pick [] rfl, rfl, T⟩
                                  · obtain ⟨Iv3, m3, T0, T1⟩ := T
                                    obtain ⟨B_7, hB_7, YB⟩ := Y.cut [] [0, 1, 2, 3, 4, 5, 6, 7, 8, 9, 10, 11, 12] rfl
                                    obtain ⟨JJ_3, hJJ_3⟩ : ∃ JJ_3 : Nat → List Value → Heap → Prop, JJ_3 = (fun k_3 lz h' => ∃ (x4 : Int), lz = [.int .i64 x4] ∧ Sy h [] h' ([] ++ B_7) ∧ Iv3 x4 ∧ m3 x4 = k_3) := ⟨_, rfl⟩
                                    refine ⟨fun lz h' => ∃ k_3, JJ_3 k_3 lz h', Lm JJ_3, ?_, ?_⟩
                                    · subst hJJ_3 hB_7
                                      exact ⟨_, _, rfl, YB, T0, rfl⟩
                                    · clear YB T0 Y
                                      intro x4 hv38 hI
                                      obtain ⟨k_3, hI, hm_3⟩ := loopIn hI
                                      subst hJJ_3 hB_7
                                      obtain ⟨x4, e, Y, T, rfl⟩ := hI
                                      cases e
                                      replace T := T1 x4 T
                                      have Y : Sy _ _ _ [_, _, _, _, _, _, _, _, _, _, _, _, _] := Y
                                      refine cnd_imp T (fun T => ?_) (fun T => ?_)
                                      · have Y0 := Y
                                        have F : Fr [] hv38 hv38 := Fr.refl _ _
                                        obtain ⟨q_15, q_16, T⟩ := T
                                        obtain ⟨b_4, hb_3, ho, ra_8, hx_3⟩ := Y0.atS 11 rfl q_15 q_16
                                        refine ⟨b_4, 0, hb_3, q_15, q_16, ?_⟩
                                        replace T := T ra_8 hx_3
                                        refine ⟨_, Y0.cellS 11 rfl hb_3 (t := 0) hx_3 rfl, ?_⟩
                                        refine ⟨_, Y0.cellS 11 rfl hb_3 (t := 1) hx_3 rfl, ?_⟩
                                        obtain ⟨q_17, q_18, T⟩ := T
                                        obtain ⟨b_5, o_4, hb_4, hr_3, c_3, hx_4⟩ := Y0.atV 2 rfl q_17 q_18
                                        refine ⟨b_5, o_4, hb_4, q_17, q_18, ?_⟩
                                        replace T := T c_3 hx_4
                                        refine ⟨_, Y0.cellV 2 rfl hb_4 (t := 0) hx_4 rfl, ?_⟩
                                        refine ⟨_, Y0.cellV 2 rfl hb_4 (t := 1) hx_4 rfl, ?_⟩
                                        refine cnd_imp T (fun T => ?_) (fun T => ?_)
                                        · exact ⟨_, Y.pick [] rfl, rfl, T⟩
                                        · exact loopBack hm_3 ⟨_, rfl, Y.pick [0, 1, 2, 3, 4, 5, 6, 7, 8, 9, 10, 11, 12] rfl, T.1, rfl⟩ T.2
                                      · exact ⟨_, Y.pick [] rfl, rfl, T⟩
end Go.Proofs.Ytmcloipjlihhlaa.N
