/- Functions: what is left to be shown of each, over memory and without: printed by program, tied to the loaded functions by the kernel. Conditions: none. -/
import Derived.Test.YtmcloipjlihhlaaSEnv
import Derived.Test.YtmcloipjlihhlaaYMore
import Derived.Test.YtmcloipjlihhlaaTRef
namespace Go.Proofs.Ytmcloipjlihhlaa.N
open Go.Proofs.Ytmcloipjlihhlaa
open Go.X
set_option maxRecDepth 100000
set_option linter.unusedVariables false
set_option linter.unusedSimpArgs false
set_option maxHeartbeats 2000000

/-- tracery/tracerylaw3.Light -/
def S59 (g : Int) (gA : Option Addr) (gL gC : Nat) (h : Heap) (R : Value → Heap → Prop) : Prop :=
  let hv : Heap := h.push (.cells #[.int .i64 g, .slice gA gL gC] 26)
  cnd (decide (((gL : Nat) : Int) ≤ (300 : Int)))
    (cnd (decide (g ≤ (300 : Int)))
      (R (.bool true) hv)
      (callX Try.prog 43 #[.agg #[.int .i64 g, .slice gA gL gC]] hv [h.size] fun v hv2 =>
      ∃ r : Bool, v = .bool r ∧
      R (.bool (!r)) hv2))
    (R (.bool false) hv)

theorem calls59 {h : Heap} {R : Value → Heap → Prop} (g : Int) (gA : Option Addr) (gL gC : Nat) (H : S59 g gA gL gC h R) : CallsH Try.prog 59 #[.agg #[.int .i64 g, .slice gA gL gC]] h R := by
  have e : S59 g gA gL gC h R = FX (envX [1] 17) { loops := [], joins := [], blocks := [], draws := [] } Try.f59 (Try.f59.body.getD .skip) [.agg #[.int .i64 g, .slice gA gL gC]] h R := by kernel_rfl
  exact calls_of_FX (envX_ok _ _) Try.func59 (by kernel_rfl) (by kernel_rfl) (by kernel_rfl) (e ▸ H)

/-- tracery/tracerylaw3.Light -/
def Ok59 (g : Int) (edgesV : List (Int × Int)) (R : Bool → Prop) : Prop :=
  ∀ (h : Heap) (gA : Option Addr) (gL gC : Nat), Hp h [Ck.vw eP gA gL gC edgesV] → CallsH Try.prog 59 #[.agg #[.int .i64 g, .slice gA gL gC]] h fun v h' => ∃ (rV : Bool), Sy h [] h' [] ∧ v = .bool rV ∧ R rV
theorem Ok59.mono {g edgesV} {R R' : Bool → Prop} (H : Ok59 g edgesV R) (kz : ∀ rV, R rV → R' rV) : Ok59 g edgesV R' :=
  fun h gA gL gC hp => (H h gA gL gC hp).mono fun _ _ ⟨rV, P, e, q⟩ => ⟨rV, P, e, kz _ q⟩

def T59 (g : Int) (edgesV : List (Int × Int)) (R : Bool → Prop) : Prop :=
  cnd (decide (((edgesV.length : Nat) : Int) ≤ (300 : Int)))
    (cnd (decide (g ≤ (300 : Int)))
      (R true)
      (Ok43 g edgesV (fun r =>
      R (!r))))
    (R false)

theorem ok59 {g edgesV} {R : Bool → Prop} (T : T59 g edgesV R) : Ok59 g edgesV R := by
  intro h gA gL gC H
  have Y : Sy h [] h _ := Sy.startM H rfl
  obtain rfl := Y.lenV 0 rfl
  apply calls59
  unfold S59
  unfold T59 at T
  intro hv
  have Y : Sy _ _ hv [_, _] := Y.junk _
  clear_value hv
  refine cnd_imp T (fun T => ?_) (fun T => ?_)
  · refine cnd_imp T (fun T => ?_) (fun T => ?_)
    · exact ⟨_, Y.pick [] rfl, rfl, T⟩
    · refine callX_sy (T _ _ _ _ (Y.pick [0] rfl).hp) (fun _ _ ⟨_, p, _⟩ => p.fr) (allc (fun h => by cases h) alln) ?_
      rintro v hv2 ⟨r, PP, rfl, T⟩
      have Y : Sy _ _ hv2 [_, _] := Y.gr PP.fr
      clear PP
      refine ⟨r, rfl, ?_⟩
      exact ⟨_, Y.pick [] rfl, rfl, T⟩
  · exact ⟨_, Y.pick [] rfl, rfl, T⟩

/-- tracery/traceryref3.Copy -/
def S95 (g : Int) (gA : Option Addr) (gL gC : Nat) (h : Heap) (R : Value → Heap → Prop) : Prop :=
  let hv : Heap := h.push (.cells #[.int .i64 g, .slice gA gL gC] 26)
  let hv2 : Heap := hv.push (.cells #[.int .i64 0, .slice none 0 0] 26)
  ∃ Mv : List Nat, (∀ b ∈ ([hv.size, h.size] : List Nat), b ∉ Mv) ∧
  ∃ xs : List Value, Reads hv2 2 gA gL xs ∧ (gA = none → gC = 0) ∧ (∀ v ∈ xs, v.oneCell' = true) ∧ ∃ old, Own hv2 35 2 none 0 0 old ∧ (∀ b ∈ ([hv.size, h.size] : List Nat), b ∉ blkOf none) ∧ (0 + gL) * 16 ≤ 140737488355328 ∧ (0 + gL) ≤ maxLen ∧
  ∀ sA sC hv3, Own hv3 35 2 sA (0 + gL) sC (old ++ xs) → Fr (blkOf none) hv2 hv3 → ((sA = none ∧ sC = 0) ∨ ∃ g, sA = some ⟨g, 0, none⟩ ∧ hv2.size ≤ g) →
  Fr Mv hv2 hv3 ∧
  let hv4 : Heap := hset (hset hv3 hv.size 0 (.int .i64 g)) hv.size (0 + 1) (.slice sA (0 + gL) sC)
  R (.agg #[.int .i64 g, .slice sA (0 + gL) sC]) hv4

theorem calls95 {h : Heap} {R : Value → Heap → Prop} (g : Int) (gA : Option Addr) (gL gC : Nat) (H : S95 g gA gL gC h R) : CallsH Try.prog 95 #[.agg #[.int .i64 g, .slice gA gL gC]] h R := by
  have e : S95 g gA gL gC h R = FX (envX [1, 2] 9) { loops := [], joins := [], blocks := [], draws := [(1, ⟨5, true⟩)] } Try.f95 (Try.f95.body.getD .skip) [.agg #[.int .i64 g, .slice gA gL gC]] h R := by kernel_rfl
  exact calls_of_FX (envX_ok _ _) Try.func95 (by kernel_rfl) (by kernel_rfl) (by kernel_rfl) (e ▸ H)

/-- tracery/traceryref3.Copy -/
def Ok95 (g : Int) (edgesV : List (Int × Int)) (R : Int → List (Int × Int) → Prop) : Prop :=
  ∀ (h : Heap) (gA : Option Addr) (gL gC : Nat), Hp h [Ck.vw eP gA gL gC edgesV] → CallsH Try.prog 95 #[.agg #[.int .i64 g, .slice gA gL gC]] h fun v h' => ∃ (nV : Int) (edgesVA : Option Addr) (edgesVL edgesVC : Nat) (edgesV2 : List (Int × Int)), Sy h [] h' [Ck.sl eP 35 edgesVA edgesVL edgesVC edgesV2] ∧ v = .agg #[.int .i64 nV, .slice edgesVA edgesVL edgesVC] ∧ R nV edgesV2
theorem Ok95.mono {g edgesV} {R R' : Int → List (Int × Int) → Prop} (H : Ok95 g edgesV R) (kz : ∀ nV edgesV2, R nV edgesV2 → R' nV edgesV2) : Ok95 g edgesV R' :=
  fun h gA gL gC hp => (H h gA gL gC hp).mono fun _ _ ⟨nV, edgesVA, edgesVL, edgesVC, edgesV2, P, e, q⟩ => ⟨nV, edgesVA, edgesVL, edgesVC, edgesV2, P, e, kz _ _ q⟩

def T95 (g : Int) (edgesV : List (Int × Int)) (R : Int → List (Int × Int) → Prop) : Prop :=
  (0 + edgesV.length) < 1000000000000 ∧ R g (([] : List (Int × Int)) ++ edgesV)

theorem ok95 {g edgesV} {R : Int → List (Int × Int) → Prop} (T : T95 g edgesV R) : Ok95 g edgesV R := by
  intro h gA gL gC H
  have Y : Sy h [] h _ := Sy.startM H rfl
  obtain rfl := Y.lenV 0 rfl
  apply calls95
  unfold S95
  unfold T95 at T
  intro hv
  have Y : Sy _ _ hv [_, _] := Y.junk _
  clear_value hv
  intro hv2
  have Y : Sy _ _ hv2 [_, _, _] := Y.junk _
  clear_value hv2
  have Y0 := Y
  obtain ⟨Mx, hMx⟩ := Y.mt [] []
  refine ⟨Mx, ?_⟩
  subst hMx
  refine ⟨(allc (Y0.nMJ 2 [] [] rfl rfl) (allc (Y0.nMJ 1 [] [] rfl rfl) alln)), ?_⟩
  have F : Fr _ hv2 hv2 := Y0.frM [] []
  refine ⟨_, Y.readsV 0 rfl, (Y.capV 0 rfl).2, En.l_one _, ?_⟩
  have Y : Sy _ _ _ [_, _, _, _] := Y.nilS eP 35
  obtain ⟨q, T⟩ := T
  refine ⟨_, Y.ownS 3 rfl, (allc (Y.nJ 3 2 rfl rfl rfl) (allc (Y.nJ 3 1 rfl rfl rfl) alln)), by omega, by simp [maxLen]; omega, ?_⟩
  intro sA sC hv3 ow fA gA
  have Y : Sy _ _ hv3 [_, _, _, _] := Y.appS 3 rfl edgesV ow fA gA rfl (by first | rfl | simp)
  have ns := F.appIn nil_in gA (Nat.le_refl _)
  have F : Fr _ _ hv3 := F.comp fA nil_in
  have fshv3 := F.size
  refine ⟨F, ?_⟩
  intro hv4
  have Y : Sy _ _ hv4 [_, _, _, _] := ((Y.stJ 2 rfl _ _).stJ 2 rfl _ _)
  clear_value hv4
  exact ⟨_, _, _, _, _, Y.pick [3] rfl, rfl, T⟩

/-- tracery/tracerylaw6.WalkJoins -/
def S20 (g : Int) (gA : Option Addr) (gL gC : Nat) (u : Int) (v : Int) (h : Heap) (R : Value → Heap → Prop) : Prop :=
  let hv : Heap := h.push (.cells #[.int .i64 g, .slice gA gL gC] 26)
  callX Try.prog 80 #[] hv [h.size] fun v2 hv2 =>
  ∃ r : Bool, v2 = .bool r ∧
  cnd (!r)
    (R (.bool false) hv2)
    (let K := fun (hv5 : Heap) =>
      (R (.bool true) hv5)
    callX Try.prog 59 #[.agg #[.int .i64 g, .slice gA gL gC]] hv2 [h.size] fun v3 hv3 =>
    ∃ r2 : Bool, v3 = .bool r2 ∧
    cnd (!r2)
      (K hv3)
      (callX Try.prog 43 #[.agg #[.int .i64 g, .slice gA gL gC]] hv3 [h.size] fun v4 hv4 =>
      ∃ r3 : Bool, v4 = .bool r3 ∧
      cnd (!r3)
        (K hv4)
        (cnd (decide (u < (0 : Int)))
          (K hv4)
          (cnd (decide (v < (0 : Int)))
            (K hv4)
            (cnd (decide (u ≥ g))
              (K hv4)
              (cnd (decide (v ≥ g))
                (R (.bool true) hv4)
                (callX Try.prog 83 #[.agg #[.int .i64 g, .slice gA gL gC]] hv4 [h.size] fun v5 hv6 =>
                ∃ (raA : Option Addr) (raL raC : Nat), ∃ rb : Int, ∃ rc : Int, v5 = .tuple #[.slice raA raL raC, .int .i64 rb, .int .i64 rc] ∧
                callX Try.prog 95 #[.agg #[.int .i64 g, .slice gA gL gC]] hv6 [h.size] fun v6 hv7 =>
                ∃ r4 : Int, ∃ (rA : Option Addr) (rL rC : Nat), v6 = .agg #[.int .i64 r4, .slice rA rL rC] ∧
                let hv8 : Heap := hv7.push (.cells #[.int .i64 0, .slice none 0 0] 26)
                let hv9 : Heap := hset (hset hv8 hv7.size 0 (.int .i64 r4)) hv7.size (0 + 1) (.slice rA rL rC)
                let hv10 : Heap := hv9.push (.cells #[.int .i64 u, .int .i64 v] 35)
                ∃ old, Own hv10 35 2 rA rL rC old ∧ (∀ b ∈ ([hv9.size, hv7.size, h.size] : List Nat), b ∉ blkOf rA) ∧ (rL + 1) * 16 ≤ 140737488355328 ∧ (rL + 1) ≤ maxLen ∧
                ∀ sA sC hv11, Own hv11 35 2 sA (rL + 1) sC (old ++ [.int .i64 u, .int .i64 v]) → Fr (blkOf rA) hv10 hv11 → ((sA = rA ∧ sC = rC) ∨ ∃ g, sA = some ⟨g, 0, none⟩ ∧ hv10.size ≤ g) →
                let hv12 : Heap := hset hv11 hv7.size 1 (.slice sA (rL + 1) sC)
                callX Try.prog 83 #[.agg #[.int .i64 r4, .slice sA (rL + 1) sC]] hv12 [hv9.size, hv7.size, h.size] fun v7 hv13 =>
                ∃ (raA2 : Option Addr) (raL2 raC2 : Nat), ∃ rb2 : Int, ∃ rc2 : Int, v7 = .tuple #[.slice raA2 raL2 raC2, .int .i64 rb2, .int .i64 rc2] ∧
                let K4 := fun (hv16 : Heap) =>
                  (∃ (Iv : List Value → Heap → Prop) (m : List Value → Heap → Nat), Iv [.int .i64 rb, .int .i64 0, .int .i64 0] hv16 ∧ -- loop 0: ['n', 'found', 's']
                  ∀ n : Int, ∀ found : Int, ∀ s : Int, ∀ hv17, Iv [.int .i64 n, .int .i64 found, .int .i64 s] hv17 →
                  cnd (decide (s < g))
                    (∃ Jv : List Value → Heap → Prop, -- block 1 ['n', 'found']
                    ( ∃ (Iv2 : List Value → Heap → Prop) (m2 : List Value → Heap → Nat), Iv2 [.bool true, .int .i64 0] hv17 ∧ -- loop 2: ['first', 'w']
                     ∀ first : Bool, ∀ w : Int, ∀ hv18, Iv2 [.bool first, .int .i64 w] hv18 →
                     cnd (decide (w < s))
                       (cnd first
                         (∃ b7 o7, raA = some ⟨b7, o7, none⟩ ∧ 0 ≤ w ∧ w < (raL : Nat) ∧ ∃ x7 : Int, hcell hv18 b7 (o7 + (Int.toNat w) * 1) = some (.int .i64 x7) ∧ ∃ b8 o8, raA = some ⟨b8, o8, none⟩ ∧ 0 ≤ s ∧ s < (raL : Nat) ∧ ∃ x8 : Int, hcell hv18 b8 (o8 + (Int.toNat s) * 1) = some (.int .i64 x8) ∧ Iv2 [.bool (x7 != x8), .int .i64 (IntKind.i64.wrap (w + (1 : Int)))] hv18 ∧ m2 [.bool (x7 != x8), .int .i64 (IntKind.i64.wrap (w + (1 : Int)))] hv18 < m2 [.bool first, .int .i64 w] hv18)
                         (Iv2 [.bool false, .int .i64 (IntKind.i64.wrap (w + (1 : Int)))] hv18 ∧ m2 [.bool false, .int .i64 (IntKind.i64.wrap (w + (1 : Int)))] hv18 < m2 [.bool first, .int .i64 w] hv18))
                       (cnd (!first)
                         (Jv [.int .i64 n, .int .i64 found] hv18)
                         (callX Try.prog 81 #[.agg #[.int .i64 g, .slice gA gL gC], .int .i64 s] hv18 [h.size] fun v8 hv19 =>
                         ∃ (raA3 : Option Addr) (raL3 raC3 : Nat), ∃ (raA4 : Option Addr) (raL4 raC4 : Nat), ∃ (raA5 : Option Addr) (raL5 raC5 : Nat), ∃ (raA6 : Option Addr) (raL6 raC6 : Nat), ∃ rb3 : Int, v8 = .tuple #[.agg #[.slice raA3 raL3 raC3, .slice raA4 raL4 raC4, .slice raA5 raL5 raC5, .slice raA6 raL6 raC6], .int .i64 rb3] ∧
                         let hv20 : Heap := hv19.push (.cells #[.slice none 0 0, .slice none 0 0, .slice none 0 0, .slice none 0 0] 113)
                         let hv21 : Heap := hset (hset (hset (hset hv20 hv19.size 0 (.slice raA3 raL3 raC3)) hv19.size (0 + 1) (.slice raA4 raL4 raC4)) hv19.size ((0 + 1) + 1) (.slice raA5 raL5 raC5)) hv19.size (((0 + 1) + 1) + 1) (.slice raA6 raL6 raC6)
                         callX Try.prog 82 #[.agg #[.int .i64 g, .slice gA gL gC], .int .i64 s] hv21 [hv19.size, h.size] fun v9 hv22 =>
                         ∃ (raA7 : Option Addr) (raL7 raC7 : Nat), ∃ (raA8 : Option Addr) (raL8 raC8 : Nat), ∃ (raA9 : Option Addr) (raL9 raC9 : Nat), ∃ (raA10 : Option Addr) (raL10 raC10 : Nat), ∃ rb4 : Int, v9 = .tuple #[.agg #[.slice raA7 raL7 raC7, .slice raA8 raL8 raC8, .slice raA9 raL9 raC9, .slice raA10 raL10 raC10], .int .i64 rb4] ∧
                         let hv23 : Heap := hv22.push (.cells #[.slice none 0 0, .slice none 0 0, .slice none 0 0, .slice none 0 0] 113)
                         let hv24 : Heap := hset (hset (hset (hset hv23 hv22.size 0 (.slice raA7 raL7 raC7)) hv22.size (0 + 1) (.slice raA8 raL8 raC8)) hv22.size ((0 + 1) + 1) (.slice raA9 raL9 raC9)) hv22.size (((0 + 1) + 1) + 1) (.slice raA10 raL10 raC10)
                         cnd (((raL3 : Nat) : Int) != ((raL7 : Nat) : Int))
                           (R (.bool false) hv24)
                           (Jv [.int .i64 (IntKind.i64.wrap (n - (1 : Int))), .int .i64 (IntKind.i64.wrap (found + ((raL3 : Nat) : Int)))] hv24)))) ∧
                    ∀ n2 : Int, ∀ found2 : Int, ∀ hv25, Jv [.int .i64 n2, .int .i64 found2] hv25 →
                    Iv [.int .i64 n2, .int .i64 found2, .int .i64 (IntKind.i64.wrap (s + (1 : Int)))] hv25 ∧ m [.int .i64 n2, .int .i64 found2, .int .i64 (IntKind.i64.wrap (s + (1 : Int)))] hv25 < m [.int .i64 n, .int .i64 found, .int .i64 s] hv17)
                    (cnd (found == g)
                      (R (.bool (n == (0 : Int))) hv17)
                      (R (.bool false) hv17)))
                let K3 := fun (hv15 : Heap) =>
                  (K4 hv15)
                let K2 := fun (hv14 : Heap) =>
                  (cnd (rb2 != (IntKind.i64.wrap (rb - (1 : Int))))
                    (R (.bool false) hv14)
                    (K4 hv14))
                ∃ b o, raA = some ⟨b, o, none⟩ ∧ 0 ≤ u ∧ u < (raL : Nat) ∧ ∃ x : Int, hcell hv13 b (o + (Int.toNat u) * 1) = some (.int .i64 x) ∧ ∃ b2 o2, raA = some ⟨b2, o2, none⟩ ∧ 0 ≤ v ∧ v < (raL : Nat) ∧ ∃ x2 : Int, hcell hv13 b2 (o2 + (Int.toNat v) * 1) = some (.int .i64 x2) ∧ cnd (x == x2)
                  (cnd (rb2 != rb)
                    (R (.bool false) hv13)
                    (∃ b3 o3, raA = some ⟨b3, o3, none⟩ ∧ 0 ≤ u ∧ u < (raL : Nat) ∧ ∃ x3 : Int, hcell hv13 b3 (o3 + (Int.toNat u) * 1) = some (.int .i64 x3) ∧ ∃ b4 o4, raA = some ⟨b4, o4, none⟩ ∧ 0 ≤ v ∧ v < (raL : Nat) ∧ ∃ x4 : Int, hcell hv13 b4 (o4 + (Int.toNat v) * 1) = some (.int .i64 x4) ∧ cnd (x3 != x4)
                      (K2 hv13)
                      (K3 hv13)))
                  (∃ b5 o5, raA = some ⟨b5, o5, none⟩ ∧ 0 ≤ u ∧ u < (raL : Nat) ∧ ∃ x5 : Int, hcell hv13 b5 (o5 + (Int.toNat u) * 1) = some (.int .i64 x5) ∧ ∃ b6 o6, raA = some ⟨b6, o6, none⟩ ∧ 0 ≤ v ∧ v < (raL : Nat) ∧ ∃ x6 : Int, hcell hv13 b6 (o6 + (Int.toNat v) * 1) = some (.int .i64 x6) ∧ cnd (x5 != x6)
                    (K2 hv13)
                    (K3 hv13)))))))))

theorem calls20 {h : Heap} {R : Value → Heap → Prop} (g : Int) (gA : Option Addr) (gL gC : Nat) (u : Int) (v : Int) (H : S20 g gA gL gC u v h R) : CallsH Try.prog 20 #[.agg #[.int .i64 g, .slice gA gL gC], .int .i64 u, .int .i64 v] h R := by
  have e : S20 g gA gL gC u v h R = FX (envX [3, 10, 18, 20, 65] 164) { loops := [(0, ⟨[3, 7], [8, 14, 15], [3], []⟩), (2, ⟨[3, 7, 8, 14, 15], [16, 17], [3], []⟩)], joins := [], blocks := [(1, ⟨[3, 7, 15], [8, 14], [3], []⟩)], draws := [(9, ⟨31, false⟩), (19, ⟨13, false⟩)] } Try.f20 (Try.f20.body.getD .skip) [.agg #[.int .i64 g, .slice gA gL gC], .int .i64 u, .int .i64 v] h R := by kernel_rfl
  exact calls_of_FX (envX_ok _ _) Try.func20 (by kernel_rfl) (by kernel_rfl) (by kernel_rfl) (e ▸ H)

/-- tracery/tracerylaw6.WalkJoins -/
def Ok20 (g : Int) (edgesV : List (Int × Int)) (u : Int) (v : Int) (R : Bool → Prop) : Prop :=
  ∀ (h : Heap) (gA : Option Addr) (gL gC : Nat), Hp h [Ck.vw eP gA gL gC edgesV] → CallsH Try.prog 20 #[.agg #[.int .i64 g, .slice gA gL gC], .int .i64 u, .int .i64 v] h fun v h' => ∃ (rV : Bool), Sy h [] h' [] ∧ v = .bool rV ∧ R rV
theorem Ok20.mono {g edgesV u v} {R R' : Bool → Prop} (H : Ok20 g edgesV u v R) (kz : ∀ rV, R rV → R' rV) : Ok20 g edgesV u v R' :=
  fun h gA gL gC hp => (H h gA gL gC hp).mono fun _ _ ⟨rV, P, e, q⟩ => ⟨rV, P, e, kz _ q⟩

def T20 (g : Int) (edgesV : List (Int × Int)) (u : Int) (v : Int) (R : Bool → Prop) : Prop :=
  Ok80 (fun r =>
  cnd (!r)
    (R false)
    (∃ Jv_2 : Prop,
    ( Ok59 g edgesV (fun r2 =>
     cnd (!r2)
       (Jv_2)
       (Ok43 g edgesV (fun r3 =>
       cnd (!r3)
         (Jv_2)
         (cnd (decide (u < (0 : Int)))
           (Jv_2)
           (cnd (decide (v < (0 : Int)))
             (Jv_2)
             (cnd (decide (u ≥ g))
               (Jv_2)
               (cnd (decide (v ≥ g))
                 (R true)
                 (Ok83 g edgesV (fun ra rb rc =>
                 Ok95 g edgesV (fun r4 r_2 =>
                 (r_2.length + 1) < 1000000000000 ∧ Ok83 r4 (r_2 ++ [(u, v)]) (fun ra_2 rb2 rc2 =>
                 ∃ Jv_3 : Prop,
                 ( ∃ Jv_4 : Prop,
                  ( ∃ Jv_5 : Prop,
                   ( 0 ≤ u ∧ u < ((ra.length : Nat) : Int) ∧ ∀ ra_13 : Int, ra[(Int.toNat u)]? = some ra_13 → 0 ≤ v ∧ v < ((ra.length : Nat) : Int) ∧ ∀ ra_14 : Int, ra[(Int.toNat v)]? = some ra_14 → cnd (ra_13 == ra_14)
                      (cnd (rb2 != rb)
                        (R false)
                        (cnd (ra_13 != ra_14)
                          (Jv_5)
                          (Jv_4)))
                      (cnd (ra_13 != ra_14)
                        (Jv_5)
                        (Jv_4))) ∧
                   (Jv_5 →
                   cnd (rb2 != (IntKind.i64.wrap (rb - (1 : Int))))
                     (R false)
                     (Jv_3))) ∧
                  (Jv_4 →
                  Jv_3)) ∧
                 (Jv_3 →
                 ∃ (Iv : Int → Int → Int → Prop) (m : Int → Int → Int → Nat), Iv rb 0 0 ∧
                 ∀ n : Int, ∀ found : Int, ∀ s : Int, Iv n found s →
                 cnd (decide (s < g))
                   (∃ Jv : Int → Int → Prop,
                   ( ∃ (Iv2 : Bool → Int → Prop) (m2 : Bool → Int → Nat), Iv2 true 0 ∧
                    ∀ first : Bool, ∀ w : Int, Iv2 first w →
                    cnd (decide (w < s))
                      (cnd first
                        (0 ≤ w ∧ w < ((ra.length : Nat) : Int) ∧ ∀ ra_3 : Int, ra[(Int.toNat w)]? = some ra_3 → 0 ≤ s ∧ s < ((ra.length : Nat) : Int) ∧ ∀ ra_4 : Int, ra[(Int.toNat s)]? = some ra_4 → Iv2 (ra_3 != ra_4) (IntKind.i64.wrap (w + (1 : Int))) ∧ m2 (ra_3 != ra_4) (IntKind.i64.wrap (w + (1 : Int))) < m2 first w)
                        (Iv2 false (IntKind.i64.wrap (w + (1 : Int))) ∧ m2 false (IntKind.i64.wrap (w + (1 : Int))) < m2 first w))
                      (cnd (!first)
                        (Jv n found)
                        (Ok81 g edgesV s (fun ra_5 ra_6 ra_7 ra_8 rb3 =>
                        Ok82 g edgesV s (fun ra_9 ra_10 ra_11 ra_12 rb4 =>
                        cnd (((ra_5.length : Nat) : Int) != ((ra_9.length : Nat) : Int))
                          (R false)
                          (Jv (IntKind.i64.wrap (n - (1 : Int))) (IntKind.i64.wrap (found + ((ra_5.length : Nat) : Int))))))))) ∧
                   ∀ n2 : Int, ∀ found2 : Int, Jv n2 found2 →
                   Iv n2 found2 (IntKind.i64.wrap (s + (1 : Int))) ∧ m n2 found2 (IntKind.i64.wrap (s + (1 : Int))) < m n found s)
                   (cnd (found == g)
                     (R (n == (0 : Int)))
                     (R false))))))))))))))) ∧
    (Jv_2 →
    R true)))

theorem ok20 {g edgesV u v} {R : Bool → Prop} (T : T20 g edgesV u v R) : Ok20 g edgesV u v R := by
  intro h gA gL gC H
  have Y : Sy h [] h _ := Sy.startM H rfl
  obtain rfl := Y.lenV 0 rfl
  apply calls20
  unfold S20
  unfold T20 at T
  intro hv
  have Y : Sy _ _ hv [_, _] := Y.junk _
  clear_value hv
  refine callX_sy (T _ (Hp.nil _)) (fun _ _ ⟨_, p, _⟩ => p.fr) (allc (fun h => by cases h) alln) ?_
  rintro v2 hv2 ⟨r, PP, rfl, T⟩
  have Y : Sy _ _ hv2 [_, _] := Y.gr PP.fr
  clear PP
  refine ⟨r, rfl, ?_⟩
  refine cnd_imp T (fun T => ?_) (fun T => ?_)
  · exact ⟨_, Y.pick [] rfl, rfl, T⟩
  · obtain ⟨Jv_2, T0, T1⟩ := T
    obtain ⟨B, hB, _⟩ := Y.cut [] [0, 1] rfl
    intro K
    have hK : ∀  (hv5 : Heap), (Sy h [] hv5 ([] ++ B) ∧ Jv_2) → K hv5 := by
      subst hB
      clear T0 Y
      rintro hv5 ⟨Y, T⟩
      replace T := T1 T
      have Y : Sy _ _ _ [_, _] := Y
      unfold K
      exact ⟨_, Y.pick [] rfl, rfl, T⟩
    subst hB
    replace T := T0
    clear T0 T1
    refine callX_sy (T _ _ _ _ (Y.pick [0] rfl).hp) (fun _ _ ⟨_, p, _⟩ => p.fr) (allc (fun h => by cases h) alln) ?_
    rintro v3 hv3 ⟨r2, PP, rfl, T⟩
    have Y : Sy _ _ hv3 [_, _] := Y.gr PP.fr
    clear PP
    refine ⟨r2, rfl, ?_⟩
    refine cnd_imp T (fun T => ?_) (fun T => ?_)
    · exact hK _ ⟨Y.pick [0, 1] rfl, T⟩
    · refine callX_sy (T _ _ _ _ (Y.pick [0] rfl).hp) (fun _ _ ⟨_, p, _⟩ => p.fr) (allc (fun h => by cases h) alln) ?_
      rintro v4 hv4 ⟨r3, PP, rfl, T⟩
      have Y : Sy _ _ hv4 [_, _] := Y.gr PP.fr
      clear PP
      refine ⟨r3, rfl, ?_⟩
      refine cnd_imp T (fun T => ?_) (fun T => ?_)
      · exact hK _ ⟨Y.pick [0, 1] rfl, T⟩
      · refine cnd_imp T (fun T => ?_) (fun T => ?_)
        · exact hK _ ⟨Y.pick [0, 1] rfl, T⟩
        · refine cnd_imp T (fun T => ?_) (fun T => ?_)
          · exact hK _ ⟨Y.pick [0, 1] rfl, T⟩
          · refine cnd_imp T (fun T => ?_) (fun T => ?_)
            · exact hK _ ⟨Y.pick [0, 1] rfl, T⟩
            · refine cnd_imp T (fun T => ?_) (fun T => ?_)
              · exact ⟨_, Y.pick [] rfl, rfl, T⟩
              · refine callX_sy (T _ _ _ _ (Y.pick [0] rfl).hp) (fun _ _ ⟨_, _, _, _, _, _, p, _⟩ => p.fr) (allc (fun h => by cases h) alln) ?_
                rintro v5 hv6 ⟨raA, raL, raC, ra, rb, rc, PP, rfl, T⟩
                have Y : Sy _ _ hv6 [_, _, _] := Y.callV PP ⟨rfl, trivial⟩
                clear PP
                obtain rfl := Y.lenS 2 rfl
                refine ⟨_, _, _, rb, rc, rfl, ?_⟩
                refine callX_sy (T _ _ _ _ (Y.pick [0] rfl).hp) (fun _ _ ⟨_, _, _, _, _, p, _⟩ => p.fr) (allc (fun h => by cases h) alln) ?_
                rintro v6 hv7 ⟨r4, rA, rL, rC, r_2, PP, rfl, T⟩
                have Y : Sy _ _ hv7 [_, _, _, _] := Y.callV PP ⟨rfl, trivial⟩
                clear PP
                obtain rfl := Y.lenS 3 rfl
                refine ⟨r4, _, _, _, rfl, ?_⟩
                intro hv8
                have Y : Sy _ _ hv8 [_, _, _, _, _] := Y.junk _
                clear_value hv8
                intro hv9
                have Y : Sy _ _ hv9 [_, _, _, _, _] := ((Y.stJ 4 rfl _ _).stJ 4 rfl _ _)
                clear_value hv9
                intro hv10
                have Y : Sy _ _ hv10 [_, _, _, _, _, _] := Y.junk _
                clear_value hv10
                obtain ⟨q, T⟩ := T
                refine ⟨_, Y.ownS 3 rfl, (allc (Y.nJ 3 5 rfl rfl rfl) (allc (Y.nJ 3 4 rfl rfl rfl) (allc (Y.nJ 3 1 rfl rfl rfl) alln))), by omega, by simp [maxLen]; omega, ?_⟩
                intro sA sC hv11 ow fA gA
                have Y : Sy _ _ hv11 [_, _, _, _, _, _] := Y.appS 3 rfl ([(u, v)] : List (Int × Int)) ow fA gA rfl rfl
                intro hv12
                have Y : Sy _ _ hv12 [_, _, _, _, _, _] := (Y.stJ 4 rfl _ _)
                clear_value hv12
                refine callX_sy (T _ _ _ _ ((Y.turn 3 rfl To.slvw).pick [3] rfl).hp) (fun _ _ ⟨_, _, _, _, _, _, p, _⟩ => p.fr) (allc (fun h => by cases h) (allc (fun h => by cases h) (allc (fun h => by cases h) alln))) ?_
                rintro v7 hv13 ⟨raA2, raL2, raC2, ra_2, rb2, rc2, PP, rfl, T⟩
                have Y : Sy _ _ hv13 [_, _, _, _, _, _, _] := Y.callV PP ⟨rfl, trivial⟩
                clear PP
                obtain rfl := Y.lenS 6 rfl
                refine ⟨_, _, _, rb2, rc2, rfl, ?_⟩
                obtain ⟨Jv_3, T0, T1⟩ := T
                obtain ⟨B_2, hB_2, _⟩ := Y.cut [] [0, 1, 2, 3, 4, 5, 6] rfl
                intro K4
                have hK4 : ∀  (hv16 : Heap), (Sy h [] hv16 ([] ++ B_2) ∧ Jv_3) → K4 hv16 := by
                  subst hB_2
                  clear T0 Y
                  rintro hv16 ⟨Y, T⟩
                  replace T := T1 T
                  have Y : Sy _ _ _ [_, _, _, _, _, _, _] := Y
                  unfold K4
                  obtain ⟨Iv, m, T0, T1⟩ := T
                  obtain ⟨B_3, hB_3, YB⟩ := Y.cut [] [0, 1, 2, 3, 4, 5, 6] rfl
                  obtain ⟨JJ, hJJ⟩ : ∃ JJ : Nat → List Value → Heap → Prop, JJ = (fun k lz h' => ∃ (n : Int) (found : Int) (s : Int), lz = [.int .i64 n, .int .i64 found, .int .i64 s] ∧ Sy h [] h' ([] ++ B_3) ∧ Iv n found s ∧ m n found s = k) := ⟨_, rfl⟩
                  refine ⟨fun lz h' => ∃ k, JJ k lz h', Lm JJ, ?_, ?_⟩
                  · subst hJJ hB_3
                    exact ⟨_, _, _, _, rfl, YB, T0, rfl⟩
                  · clear YB T0 Y
                    intro n found s hv17 hI
                    obtain ⟨k, hI, hm⟩ := loopIn hI
                    subst hJJ hB_3
                    obtain ⟨n, found, s, e, Y, T, rfl⟩ := hI
                    cases e
                    replace T := T1 n found s T
                    have Y : Sy _ _ _ [_, _, _, _, _, _, _] := Y
                    refine cnd_imp T (fun T => ?_) (fun T => ?_)
                    · obtain ⟨Jv, T0, T1⟩ := T
                      obtain ⟨B_4, hB_4, _⟩ := Y.cut [] [0, 1, 2, 3, 4, 5, 6] rfl
                      refine ⟨fun lz h' => ∃ (n2 : Int) (found2 : Int), lz = [.int .i64 n2, .int .i64 found2] ∧ Sy h [] h' ([] ++ B_4) ∧ Jv n2 found2, ?_, ?_⟩
                      · subst hB_4
                        replace T := T0
                        clear T0 T1
                        obtain ⟨Iv2, m2, T0, T1⟩ := T
                        obtain ⟨B_5, hB_5, YB⟩ := Y.cut [] [0, 1, 2, 3, 4, 5, 6] rfl
                        obtain ⟨JJ_2, hJJ_2⟩ : ∃ JJ_2 : Nat → List Value → Heap → Prop, JJ_2 = (fun k_2 lz h' => ∃ (first : Bool) (w : Int), lz = [.bool first, .int .i64 w] ∧ Sy h [] h' ([] ++ B_5) ∧ Iv2 first w ∧ m2 first w = k_2) := ⟨_, rfl⟩
                        refine ⟨fun lz h' => ∃ k_2, JJ_2 k_2 lz h', Lm JJ_2, ?_, ?_⟩
                        · subst hJJ_2 hB_5
                          exact ⟨_, _, _, rfl, YB, T0, rfl⟩
                        · clear YB T0 Y
                          intro first w hv18 hI
                          obtain ⟨k_2, hI, hm_2⟩ := loopIn hI
                          subst hJJ_2 hB_5
                          obtain ⟨first, w, e, Y, T, rfl⟩ := hI
                          cases e
                          replace T := T1 first w T
                          have Y : Sy _ _ _ [_, _, _, _, _, _, _] := Y
                          refine cnd_imp T (fun T => ?_) (fun T => ?_)
                          · have Y0 := Y
                            have F : Fr [] hv18 hv18 := Fr.refl _ _
                            refine cnd_imp T (fun T => ?_) (fun T => ?_)
                            · obtain ⟨q_2, q_3, T⟩ := T
                              obtain ⟨b_2, hb, ho, ra_3, hx⟩ := Y0.atS 2 rfl q_2 q_3
                              refine ⟨b_2, 0, hb, q_2, q_3, ?_⟩
                              replace T := T ra_3 hx
                              refine ⟨_, Y0.cellS 2 rfl hb (t := 0) hx rfl, ?_⟩
                              obtain ⟨q_4, q_5, T⟩ := T
                              obtain ⟨b_3, hb_2, ho_2, ra_4, hx_2⟩ := Y0.atS 2 rfl q_4 q_5
                              refine ⟨b_3, 0, hb_2, q_4, q_5, ?_⟩
                              replace T := T ra_4 hx_2
                              refine ⟨_, Y0.cellS 2 rfl hb_2 (t := 0) hx_2 rfl, ?_⟩
                              exact loopBack hm_2 ⟨_, _, rfl, Y.pick [0, 1, 2, 3, 4, 5, 6] rfl, T.1, rfl⟩ T.2
                            · exact loopBack hm_2 ⟨_, _, rfl, Y.pick [0, 1, 2, 3, 4, 5, 6] rfl, T.1, rfl⟩ T.2
                          · refine cnd_imp T (fun T => ?_) (fun T => ?_)
                            · exact ⟨_, _, rfl, Y.pick [0, 1, 2, 3, 4, 5, 6] rfl, T⟩
                            · refine callX_sy (T _ _ _ _ (Y.pick [0] rfl).hp) (fun _ _ ⟨_, _, _, _, _, _, _, _, _, _, _, _, _, _, _, _, _, p, _⟩ => p.fr) (allc (fun h => by cases h) alln) ?_
                              rintro v8 hv19 ⟨raA3, raL3, raC3, ra_5, raA4, raL4, raC4, ra_6, raA5, raL5, raC5, ra_7, raA6, raL6, raC6, ra_8, rb3, PP, rfl, T⟩
                              have Y : Sy _ _ hv19 [_, _, _, _, _, _, _, _, _, _, _] := Y.callV PP ⟨rfl, ⟨rfl, ⟨rfl, ⟨rfl, trivial⟩⟩⟩⟩
                              clear PP
                              obtain rfl := Y.lenS 7 rfl
                              obtain rfl := Y.lenS 8 rfl
                              obtain rfl := Y.lenS 9 rfl
                              obtain rfl := Y.lenS 10 rfl
                              refine ⟨_, _, _, _, _, _, _, _, _, _, _, _, rb3, rfl, ?_⟩
                              intro hv20
                              have Y : Sy _ _ hv20 [_, _, _, _, _, _, _, _, _, _, _, _] := Y.junk _
                              clear_value hv20
                              intro hv21
                              have Y : Sy _ _ hv21 [_, _, _, _, _, _, _, _, _, _, _, _] := ((((Y.stJ 11 rfl _ _).stJ 11 rfl _ _).stJ 11 rfl _ _).stJ 11 rfl _ _)
                              clear_value hv21
                              refine callX_sy (T _ _ _ _ (Y.pick [0] rfl).hp) (fun _ _ ⟨_, _, _, _, _, _, _, _, _, _, _, _, _, _, _, _, _, p, _⟩ => p.fr) (allc (fun h => by cases h) (allc (fun h => by cases h) alln)) ?_
                              rintro v9 hv22 ⟨raA7, raL7, raC7, ra_9, raA8, raL8, raC8, ra_10, raA9, raL9, raC9, ra_11, raA10, raL10, raC10, ra_12, rb4, PP, rfl, T⟩
                              have Y : Sy _ _ hv22 [_, _, _, _, _, _, _, _, _, _, _, _, _, _, _, _] := Y.callV PP ⟨rfl, ⟨rfl, ⟨rfl, ⟨rfl, trivial⟩⟩⟩⟩
                              clear PP
                              obtain rfl := Y.lenS 12 rfl
                              obtain rfl := Y.lenS 13 rfl
                              obtain rfl := Y.lenS 14 rfl
                              obtain rfl := Y.lenS 15 rfl
                              refine ⟨_, _, _, _, _, _, _, _, _, _, _, _, rb4, rfl, ?_⟩
                              intro hv23
                              have Y : Sy _ _ hv23 [_, _, _, _, _, _, _, _, _, _, _, _, _, _, _, _, _] := Y.junk _
                              clear_value hv23
                              intro hv24
                              have Y : Sy _ _ hv24 [_, _, _, _, _, _, _, _, _, _, _, _, _, _, _, _, _] := ((((Y.stJ 16 rfl _ _).stJ 16 rfl _ _).stJ 16 rfl _ _).stJ 16 rfl _ _)
                              clear_value hv24
                              refine cnd_imp T (fun T => ?_) (fun T => ?_)
                              · exact ⟨_, Y.pick [] rfl, rfl, T⟩
                              · exact ⟨_, _, rfl, Y.pick [0, 1, 2, 3, 4, 5, 6] rfl, T⟩
                      · subst hB_4
                        clear T0 Y
                        rintro n2 found2 hv25 ⟨n2, found2, e, Y, T⟩
                        cases e
                        replace T := T1 n2 found2 T
                        have Y : Sy _ _ _ [_, _, _, _, _, _, _] := Y
                        exact loopBack hm ⟨_, _, _, rfl, Y.pick [0, 1, 2, 3, 4, 5, 6] rfl, T.1, rfl⟩ T.2
                    · refine cnd_imp T (fun T => ?_) (fun T => ?_)
                      · exact ⟨_, Y.pick [] rfl, rfl, T⟩
                      · exact ⟨_, Y.pick [] rfl, rfl, T⟩
                subst hB_2
                replace T := T0
                clear T0 T1
                obtain ⟨Jv_4, T0, T1⟩ := T
                obtain ⟨B_6, hB_6, _⟩ := Y.cut [] [0, 1, 2, 3, 4, 5, 6] rfl
                intro K3
                have hK3 : ∀  (hv15 : Heap), (Sy h [] hv15 ([] ++ B_6) ∧ Jv_4) → K3 hv15 := by
                  subst hB_6
                  clear T0 Y
                  rintro hv15 ⟨Y, T⟩
                  replace T := T1 T
                  have Y : Sy _ _ _ [_, _, _, _, _, _, _] := Y
                  unfold K3
                  exact hK4 _ ⟨Y.pick [0, 1, 2, 3, 4, 5, 6] rfl, T⟩
                subst hB_6
                replace T := T0
                clear T0 T1
                obtain ⟨Jv_5, T0, T1⟩ := T
                obtain ⟨B_7, hB_7, _⟩ := Y.cut [] [0, 1, 2, 3, 4, 5, 6] rfl
                intro K2
                have hK2 : ∀  (hv14 : Heap), (Sy h [] hv14 ([] ++ B_7) ∧ Jv_5) → K2 hv14 := by
                  subst hB_7
                  clear T0 Y
                  rintro hv14 ⟨Y, T⟩
                  replace T := T1 T
                  have Y : Sy _ _ _ [_, _, _, _, _, _, _] := Y
                  unfold K2
                  refine cnd_imp T (fun T => ?_) (fun T => ?_)
                  · exact ⟨_, Y.pick [] rfl, rfl, T⟩
                  · exact hK4 _ ⟨Y.pick [0, 1, 2, 3, 4, 5, 6] rfl, T⟩
                subst hB_7
                replace T := T0
                clear T0 T1
                have Y0 := Y
                have F : Fr [] hv13 hv13 := Fr.refl _ _
                obtain ⟨q_6, q_7, T⟩ := T
                obtain ⟨b_4, hb_3, ho_3, ra_13, hx_3⟩ := Y0.atS 2 rfl q_6 q_7
                refine ⟨b_4, 0, hb_3, q_6, q_7, ?_⟩
                replace T := T ra_13 hx_3
                refine ⟨_, Y0.cellS 2 rfl hb_3 (t := 0) hx_3 rfl, ?_⟩
                obtain ⟨q_8, q_9, T⟩ := T
                obtain ⟨b_5, hb_4, ho_4, ra_14, hx_4⟩ := Y0.atS 2 rfl q_8 q_9
                refine ⟨b_5, 0, hb_4, q_8, q_9, ?_⟩
                replace T := T ra_14 hx_4
                refine ⟨_, Y0.cellS 2 rfl hb_4 (t := 0) hx_4 rfl, ?_⟩
                refine cnd_imp T (fun T => ?_) (fun T => ?_)
                · refine cnd_imp T (fun T => ?_) (fun T => ?_)
                  · exact ⟨_, Y.pick [] rfl, rfl, T⟩
                  · refine ⟨b_4, 0, hb_3, q_6, q_7, ?_⟩
                    refine ⟨_, Y0.cellS 2 rfl hb_3 (t := 0) hx_3 rfl, ?_⟩
                    refine ⟨b_5, 0, hb_4, q_8, q_9, ?_⟩
                    refine ⟨_, Y0.cellS 2 rfl hb_4 (t := 0) hx_4 rfl, ?_⟩
                    refine cnd_imp T (fun T => ?_) (fun T => ?_)
                    · exact hK2 _ ⟨Y.pick [0, 1, 2, 3, 4, 5, 6] rfl, T⟩
                    · exact hK3 _ ⟨Y.pick [0, 1, 2, 3, 4, 5, 6] rfl, T⟩
                · refine ⟨b_4, 0, hb_3, q_6, q_7, ?_⟩
                  refine ⟨_, Y0.cellS 2 rfl hb_3 (t := 0) hx_3 rfl, ?_⟩
                  refine ⟨b_5, 0, hb_4, q_8, q_9, ?_⟩
                  refine ⟨_, Y0.cellS 2 rfl hb_4 (t := 0) hx_4 rfl, ?_⟩
                  refine cnd_imp T (fun T => ?_) (fun T => ?_)
                  · exact hK2 _ ⟨Y.pick [0, 1, 2, 3, 4, 5, 6] rfl, T⟩
                  · exact hK3 _ ⟨Y.pick [0, 1, 2, 3, 4, 5, 6] rfl, T⟩

/-- tracery/traceryref3.Split -/
def S96 (g : Int) (gA : Option Addr) (gL gC : Nat) (ev : Int) (h : Heap) (R : Value → Heap → Prop) : Prop :=
  let hv : Heap := h.push (.cells #[.int .i64 g, .slice gA gL gC] 26)
  let hv2 : Heap := hv.push (.cells #[.int .i64 0, .slice none 0 0] 26)
  cnd (decide (ev < (0 : Int)))
    (let hv3 : Heap := hset (hset hv2 hv.size 0 (.int .i64 0)) hv.size (0 + 1) (.slice none 0 0)
    R (.tuple #[.agg #[.int .i64 0, .slice none 0 0], .int .i64 2]) hv3)
    (cnd (decide (ev ≥ ((gL : Nat) : Int)))
      (let hv4 : Heap := hset (hset hv2 hv.size 0 (.int .i64 0)) hv.size (0 + 1) (.slice none 0 0)
      R (.tuple #[.agg #[.int .i64 0, .slice none 0 0], .int .i64 2]) hv4)
      (callX Try.prog 95 #[.agg #[.int .i64 g, .slice gA gL gC]] hv2 [hv.size, h.size] fun v hv5 =>
      ∃ r : Int, ∃ (rA : Option Addr) (rL rC : Nat), v = .agg #[.int .i64 r, .slice rA rL rC] ∧
      let hv6 : Heap := hv5.push (.cells #[.int .i64 0, .slice none 0 0] 26)
      let hv7 : Heap := hset (hset hv6 hv5.size 0 (.int .i64 r)) hv5.size (0 + 1) (.slice rA rL rC)
      ∃ b o, rA = some ⟨b, o, none⟩ ∧ 0 ≤ ev ∧ ev < (rL : Nat) ∧ b ≠ hv5.size ∧ b ≠ hv.size ∧ b ≠ h.size ∧ (∃ u, hcell hv7 b ((o + (Int.toNat ev) * 2) + 1) = some u) ∧ hfree hv7 b ((o + (Int.toNat ev) * 2) + 1) = true ∧ let hv8 : Heap := hset hv7 b ((o + (Int.toNat ev) * 2) + 1) (.int .i64 g)
      ∃ b2 o2, gA = some ⟨b2, o2, none⟩ ∧ 0 ≤ ev ∧ ev < (gL : Nat) ∧ ∃ x : Int, hcell hv8 b2 ((o2 + (Int.toNat ev) * 2) + 1) = some (.int .i64 x) ∧ let hv9 : Heap := hv8.push (.cells #[.int .i64 g, .int .i64 x] 35)
      Fr [] hv8 hv9 ∧
      ∃ old, Own hv9 35 2 rA rL rC old ∧ (∀ b ∈ ([hv8.size, hv5.size, hv.size, h.size] : List Nat), b ∉ blkOf rA) ∧ (rL + 1) * 16 ≤ 140737488355328 ∧ (rL + 1) ≤ maxLen ∧
      ∀ sA sC hv10, Own hv10 35 2 sA (rL + 1) sC (old ++ [.int .i64 g, .int .i64 x]) → Fr (blkOf rA) hv9 hv10 → ((sA = rA ∧ sC = rC) ∨ ∃ g, sA = some ⟨g, 0, none⟩ ∧ hv9.size ≤ g) →
      let hv11 : Heap := hset hv10 hv5.size 1 (.slice sA (rL + 1) sC)
      let hv12 : Heap := hset hv11 hv5.size 0 (.int .i64 (IntKind.i64.wrap (r + (1 : Int))))
      callX Try.prog 43 #[.agg #[.int .i64 (IntKind.i64.wrap (r + (1 : Int))), .slice sA (rL + 1) sC]] hv12 [hv8.size, hv5.size, hv.size, h.size] fun v2 hv13 =>
      ∃ r2 : Bool, v2 = .bool r2 ∧
      cnd (!r2)
        (let hv14 : Heap := hset (hset hv13 hv.size 0 (.int .i64 0)) hv.size (0 + 1) (.slice none 0 0)
        R (.tuple #[.agg #[.int .i64 0, .slice none 0 0], .int .i64 3]) hv14)
        (let hv15 : Heap := hset (hset hv13 hv.size 0 (.int .i64 (IntKind.i64.wrap (r + (1 : Int))))) hv.size (0 + 1) (.slice sA (rL + 1) sC)
        R (.tuple #[.agg #[.int .i64 (IntKind.i64.wrap (r + (1 : Int))), .slice sA (rL + 1) sC], .int .i64 0]) hv15)))

theorem calls96 {h : Heap} {R : Value → Heap → Prop} (g : Int) (gA : Option Addr) (gL gC : Nat) (ev : Int) (H : S96 g gA gL gC ev h R) : CallsH Try.prog 96 #[.agg #[.int .i64 g, .slice gA gL gC], .int .i64 ev] h R := by
  have e : S96 g gA gL gC ev h R = FX (envX [2, 4, 6, 37] 49) { loops := [], joins := [], blocks := [], draws := [(4, ⟨7, false⟩), (5, ⟨12, false⟩)] } Try.f96 (Try.f96.body.getD .skip) [.agg #[.int .i64 g, .slice gA gL gC], .int .i64 ev] h R := by kernel_rfl
  exact calls_of_FX (envX_ok _ _) Try.func96 (by kernel_rfl) (by kernel_rfl) (by kernel_rfl) (e ▸ H)

/-- tracery/traceryref3.Split -/
def Ok96 (g : Int) (edgesV : List (Int × Int)) (ev : Int) (R : Int → List (Int × Int) → Int → Prop) : Prop :=
  ∀ (h : Heap) (gA : Option Addr) (gL gC : Nat), Hp h [Ck.vw eP gA gL gC edgesV] → CallsH Try.prog 96 #[.agg #[.int .i64 g, .slice gA gL gC], .int .i64 ev] h fun v h' => ∃ (nV : Int) (edgesVA : Option Addr) (edgesVL edgesVC : Nat) (edgesV2 : List (Int × Int)) (rbV : Int), Sy h [] h' [Ck.sl eP 35 edgesVA edgesVL edgesVC edgesV2] ∧ v = .tuple #[.agg #[.int .i64 nV, .slice edgesVA edgesVL edgesVC], .int .i64 rbV] ∧ R nV edgesV2 rbV
theorem Ok96.mono {g edgesV ev} {R R' : Int → List (Int × Int) → Int → Prop} (H : Ok96 g edgesV ev R) (kz : ∀ nV edgesV2 rbV, R nV edgesV2 rbV → R' nV edgesV2 rbV) : Ok96 g edgesV ev R' :=
  fun h gA gL gC hp => (H h gA gL gC hp).mono fun _ _ ⟨nV, edgesVA, edgesVL, edgesVC, edgesV2, rbV, P, e, q⟩ => ⟨nV, edgesVA, edgesVL, edgesVC, edgesV2, rbV, P, e, kz _ _ _ q⟩

def T96 (g : Int) (edgesV : List (Int × Int)) (ev : Int) (R : Int → List (Int × Int) → Int → Prop) : Prop :=
  cnd (decide (ev < (0 : Int)))
    (R 0 ([] : List (Int × Int)) 2)
    (cnd (decide (ev ≥ ((edgesV.length : Nat) : Int)))
      (R 0 ([] : List (Int × Int)) 2)
      (Ok95 g edgesV (fun r r_2 =>
      0 ≤ ev ∧ ev < ((r_2.length : Nat) : Int) ∧ ∀ r_3 : (Int × Int), r_2[(Int.toNat ev)]? = some r_3 → 0 ≤ ev ∧ ev < ((edgesV.length : Nat) : Int) ∧ ∀ g_2 : (Int × Int), edgesV[(Int.toNat ev)]? = some g_2 → (r_2.length + 1) < 1000000000000 ∧ Ok43 (IntKind.i64.wrap (r + (1 : Int))) ((r_2.set (Int.toNat ev) (r_3.1, g)) ++ [(g, g_2.2)]) (fun r2 =>
      cnd (!r2)
        (R 0 ([] : List (Int × Int)) 3)
        (R (IntKind.i64.wrap (r + (1 : Int))) ((r_2.set (Int.toNat ev) (r_3.1, g)) ++ [(g, g_2.2)]) 0)))))

theorem ok96 {g edgesV ev} {R : Int → List (Int × Int) → Int → Prop} (T : T96 g edgesV ev R) : Ok96 g edgesV ev R := by
  intro h gA gL gC H
  have Y : Sy h [] h _ := Sy.startM H rfl
  obtain rfl := Y.lenV 0 rfl
  apply calls96
  unfold S96
  unfold T96 at T
  intro hv
  have Y : Sy _ _ hv [_, _] := Y.junk _
  clear_value hv
  intro hv2
  have Y : Sy _ _ hv2 [_, _, _] := Y.junk _
  clear_value hv2
  refine cnd_imp T (fun T => ?_) (fun T => ?_)
  · intro hv3
    have Y : Sy _ _ hv3 [_, _, _] := ((Y.stJ 2 rfl _ _).stJ 2 rfl _ _)
    clear_value hv3
    have Y : Sy _ _ _ [_, _, _, _] := Y.nilS eP 35
    exact ⟨_, _, _, _, _, _, Y.pick [3] rfl, rfl, T⟩
  · refine cnd_imp T (fun T => ?_) (fun T => ?_)
    · intro hv4
      have Y : Sy _ _ hv4 [_, _, _] := ((Y.stJ 2 rfl _ _).stJ 2 rfl _ _)
      clear_value hv4
      have Y : Sy _ _ _ [_, _, _, _] := Y.nilS eP 35
      exact ⟨_, _, _, _, _, _, Y.pick [3] rfl, rfl, T⟩
    · refine callX_sy (T _ _ _ _ (Y.pick [0] rfl).hp) (fun _ _ ⟨_, _, _, _, _, p, _⟩ => p.fr) (allc (fun h => by cases h) (allc (fun h => by cases h) alln)) ?_
      rintro v hv5 ⟨r, rA, rL, rC, r_2, PP, rfl, T⟩
      have Y : Sy _ _ hv5 [_, _, _, _] := Y.callV PP ⟨rfl, trivial⟩
      clear PP
      obtain rfl := Y.lenS 3 rfl
      refine ⟨r, _, _, _, rfl, ?_⟩
      intro hv6
      have Y : Sy _ _ hv6 [_, _, _, _, _] := Y.junk _
      clear_value hv6
      intro hv7
      have Y : Sy _ _ hv7 [_, _, _, _, _] := ((Y.stJ 4 rfl _ _).stJ 4 rfl _ _)
      clear_value hv7
      have Y0 := Y
      have F : Fr [] hv7 hv7 := Fr.refl _ _
      obtain ⟨q, q_2, T⟩ := T
      obtain ⟨b_2, hb, ho, r_3, hx⟩ := Y0.atS 3 rfl q q_2
      refine ⟨b_2, 0, hb, q, q_2, ?_⟩
      replace T := T r_3 hx
      refine ⟨(Y.neJ 3 4 rfl rfl rfl ho), (Y.neJ 3 2 rfl rfl rfl ho), (Y.neJ 3 1 rfl rfl rfl ho), Y.cellEx 3 rfl hb (t := 1) (by omega) (by decide), Y.freeS 3 rfl hb _, ?_⟩
      intro hv8
      have Y : Sy _ _ hv8 [_, _, _, _, _] := Y.stS 3 rfl hb (t := 1) (r_3.1, g) hx (by decide) rfl
      clear_value hv8
      have Y0 := Y
      have F : Fr [] hv8 hv8 := Fr.refl _ _
      obtain ⟨q_3, q_4, T⟩ := T
      obtain ⟨b_3, o_2, hb_2, hr, g_2, hx_2⟩ := Y0.atV 0 rfl q_3 q_4
      refine ⟨b_3, o_2, hb_2, q_3, q_4, ?_⟩
      replace T := T g_2 hx_2
      refine ⟨_, Y0.cellV 0 rfl hb_2 (t := 1) hx_2 rfl, ?_⟩
      intro hv9
      have Y : Sy _ _ hv9 [_, _, _, _, _, _] := Y.junk _
      have F : Fr _ _ hv9 := F.pushr _
      have fshv9 := F.size
      clear_value hv9
      refine ⟨F, ?_⟩
      obtain ⟨q_5, T⟩ := T
      refine ⟨_, Y.ownS 3 rfl, (allc (Y.nJ 3 5 rfl rfl rfl) (allc (Y.nJ 3 4 rfl rfl rfl) (allc (Y.nJ 3 2 rfl rfl rfl) (allc (Y.nJ 3 1 rfl rfl rfl) alln)))), by omega, by simp [maxLen]; omega, ?_⟩
      intro sA sC hv10 ow fA gA
      have Y : Sy _ _ hv10 [_, _, _, _, _, _] := Y.appS 3 rfl ([(g, g_2.2)] : List (Int × Int)) ow fA gA rfl rfl
      intro hv11
      have Y : Sy _ _ hv11 [_, _, _, _, _, _] := (Y.stJ 4 rfl _ _)
      clear_value hv11
      intro hv12
      have Y : Sy _ _ hv12 [_, _, _, _, _, _] := (Y.stJ 4 rfl _ _)
      clear_value hv12
      refine callX_sy (T _ _ _ _ ((Y.turn 3 rfl To.slvw).pick [3] rfl).hp) (fun _ _ ⟨_, p, _⟩ => p.fr) (allc (fun h => by cases h) (allc (fun h => by cases h) (allc (fun h => by cases h) (allc (fun h => by cases h) alln)))) ?_
      rintro v2 hv13 ⟨r2, PP, rfl, T⟩
      have Y : Sy _ _ hv13 [_, _, _, _, _, _] := Y.gr PP.fr
      clear PP
      refine ⟨r2, rfl, ?_⟩
      refine cnd_imp T (fun T => ?_) (fun T => ?_)
      · intro hv14
        have Y : Sy _ _ hv14 [_, _, _, _, _, _] := ((Y.stJ 2 rfl _ _).stJ 2 rfl _ _)
        clear_value hv14
        have Y : Sy _ _ _ [_, _, _, _, _, _, _] := Y.nilS eP 35
        exact ⟨_, _, _, _, _, _, Y.pick [6] rfl, rfl, T⟩
      · intro hv15
        have Y : Sy _ _ hv15 [_, _, _, _, _, _] := ((Y.stJ 2 rfl _ _).stJ 2 rfl _ _)
        clear_value hv15
        exact ⟨_, _, _, _, _, _, Y.pick [3] rfl, rfl, T⟩

/-- tracery/tracerylaw6.WalkOdd -/
def S21 (g : Int) (gA : Option Addr) (gL gC : Nat) (ev : Int) (h : Heap) (R : Value → Heap → Prop) : Prop :=
  let hv : Heap := h.push (.cells #[.int .i64 g, .slice gA gL gC] 26)
  callX Try.prog 80 #[] hv [h.size] fun v hv2 =>
  ∃ r : Bool, v = .bool r ∧
  cnd (!r)
    (R (.bool false) hv2)
    (let K := fun (hv4 : Heap) =>
      (R (.bool true) hv4)
    callX Try.prog 43 #[.agg #[.int .i64 g, .slice gA gL gC]] hv2 [h.size] fun v2 hv3 =>
    ∃ r2 : Bool, v2 = .bool r2 ∧
    cnd (!r2)
      (K hv3)
      (cnd (((gL : Nat) : Int) == (0 : Int))
        (K hv3)
        (cnd (decide (((gL : Nat) : Int) > (60 : Int)))
          (K hv3)
          (cnd (decide (g > (100 : Int)))
            (K hv3)
            (cnd (decide (ev < (0 : Int)))
              (R (.bool true) hv3)
              (callX Try.prog 90 #[.agg #[.int .i64 g, .slice gA gL gC]] hv3 [h.size] fun v3 hv5 =>
              ∃ (raA : Option Addr) (raL raC : Nat), ∃ (rbA : Option Addr) (rbL rbC : Nat), ∃ rc : Int, v3 = .tuple #[.slice raA raL raC, .slice rbA rbL rbC, .int .i64 rc] ∧
              callX Try.prog 93 #[.agg #[.int .i64 g, .slice gA gL gC]] hv5 [h.size] fun v4 hv6 =>
              ∃ (raA2 : Option Addr) (raL2 raC2 : Nat), ∃ rb : Int, v4 = .tuple #[.slice raA2 raL2 raC2, .int .i64 rb] ∧
              let K2 := fun (hv7 : Heap) =>
                (((gL : Nat) : Int) ≠ 0 ∧ callX Try.prog 96 #[.agg #[.int .i64 g, .slice gA gL gC], .int .i64 (Int.tmod ev ((gL : Nat) : Int))] hv7 [h.size] fun v5 hv8 =>
                ∃ ra : Int, ∃ (raA3 : Option Addr) (raL3 raC3 : Nat), ∃ rb2 : Int, v5 = .tuple #[.agg #[.int .i64 ra, .slice raA3 raL3 raC3], .int .i64 rb2] ∧
                let hv9 : Heap := hv8.push (.cells #[.int .i64 0, .slice none 0 0] 26)
                let hv10 : Heap := hset (hset hv9 hv8.size 0 (.int .i64 ra)) hv8.size (0 + 1) (.slice raA3 raL3 raC3)
                callX Try.prog 96 #[.agg #[.int .i64 ra, .slice raA3 raL3 raC3], .int .i64 (Int.tmod ev ((gL : Nat) : Int))] hv10 [hv8.size, h.size] fun v6 hv11 =>
                ∃ ra2 : Int, ∃ (raA4 : Option Addr) (raL4 raC4 : Nat), ∃ rb3 : Int, v6 = .tuple #[.agg #[.int .i64 ra2, .slice raA4 raL4 raC4], .int .i64 rb3] ∧
                let hv12 : Heap := hset (hset hv11 hv8.size 0 (.int .i64 ra2)) hv8.size (0 + 1) (.slice raA4 raL4 raC4)
                callX Try.prog 90 #[.agg #[.int .i64 ra2, .slice raA4 raL4 raC4]] hv12 [hv8.size, h.size] fun v7 hv13 =>
                ∃ (raA5 : Option Addr) (raL5 raC5 : Nat), ∃ (rbA2 : Option Addr) (rbL2 rbC2 : Nat), ∃ rc2 : Int, v7 = .tuple #[.slice raA5 raL5 raC5, .slice rbA2 rbL2 rbC2, .int .i64 rc2] ∧
                cnd (rc2 == (0 : Int))
                  (cnd ((((rbL : Nat) : Int) == (0 : Int)) == (((rbL2 : Nat) : Int) == (0 : Int)))
                    (cnd (decide (((rbL : Nat) : Int) > (0 : Int)))
                      (R (.bool true) hv13)
                      (cnd (((raL5 : Nat) : Int) == (IntKind.i64.wrap (g + (2 : Int))))
                        (0 ≤ g ∧ g ≤ (raC5 : Nat) ∧ callX Try.prog 68 #[.slice (if raC5 = 0 then raA5 else Option.map (fun addr => Addr.add addr (0 * 1)) raA5) ((Int.toNat g) - 0) (raC5 - 0), .slice raA raL raC] hv13 [hv8.size, h.size] fun v8 hv14 =>
                        ∃ r3 : Bool, v8 = .bool r3 ∧
                        R (.bool r3) hv14)
                        (R (.bool false) hv13)))
                    (R (.bool false) hv13))
                  (R (.bool false) hv13))
              let k : Prop :=
                (cnd (decide (((rbL : Nat) : Int) > (0 : Int)))
                  (cnd (rb != (0 : Int))
                    (R (.bool false) hv6)
                    (K2 hv6))
                  (K2 hv6))
              cnd (((rbL : Nat) : Int) == (0 : Int))
                (cnd (rb == (0 : Int))
                  ((2 : Int) ≠ 0 ∧ cnd ((Int.tmod ((raL2 : Nat) : Int) (2 : Int)) == (1 : Int))
                    (R (.bool false) hv6)
                    (cnd (decide (((rbL : Nat) : Int) > (0 : Int)))
                      (cnd (rb != (0 : Int))
                        (R (.bool false) hv6)
                        (K2 hv6))
                      (K2 hv6)))
                  (k))
                (k)))))))

theorem calls21 {h : Heap} {R : Value → Heap → Prop} (g : Int) (gA : Option Addr) (gL gC : Nat) (ev : Int) (H : S21 g gA gL gC ev h R) : CallsH Try.prog 21 #[.agg #[.int .i64 g, .slice gA gL gC], .int .i64 ev] h R := by
  have e : S21 g gA gL gC ev h R = FX (envX [2, 11] 130) { loops := [], joins := [], blocks := [], draws := [] } Try.f21 (Try.f21.body.getD .skip) [.agg #[.int .i64 g, .slice gA gL gC], .int .i64 ev] h R := by kernel_rfl
  exact calls_of_FX (envX_ok _ _) Try.func21 (by kernel_rfl) (by kernel_rfl) (by kernel_rfl) (e ▸ H)

/-- tracery/tracerylaw6.WalkOdd -/
def Ok21 (g : Int) (edgesV : List (Int × Int)) (ev : Int) (R : Bool → Prop) : Prop :=
  ∀ (h : Heap) (gA : Option Addr) (gL gC : Nat), Hp h [Ck.vw eP gA gL gC edgesV] → CallsH Try.prog 21 #[.agg #[.int .i64 g, .slice gA gL gC], .int .i64 ev] h fun v h' => ∃ (rV : Bool), Sy h [] h' [] ∧ v = .bool rV ∧ R rV
theorem Ok21.mono {g edgesV ev} {R R' : Bool → Prop} (H : Ok21 g edgesV ev R) (kz : ∀ rV, R rV → R' rV) : Ok21 g edgesV ev R' :=
  fun h gA gL gC hp => (H h gA gL gC hp).mono fun _ _ ⟨rV, P, e, q⟩ => ⟨rV, P, e, kz _ q⟩

def T21 (g : Int) (edgesV : List (Int × Int)) (ev : Int) (R : Bool → Prop) : Prop :=
  Ok80 (fun r =>
  cnd (!r)
    (R false)
    (∃ Jv : Prop,
    ( Ok43 g edgesV (fun r2 =>
     cnd (!r2)
       (Jv)
       (cnd (((edgesV.length : Nat) : Int) == (0 : Int))
         (Jv)
         (cnd (decide (((edgesV.length : Nat) : Int) > (60 : Int)))
           (Jv)
           (cnd (decide (g > (100 : Int)))
             (Jv)
             (cnd (decide (ev < (0 : Int)))
               (R true)
               (Ok90 g edgesV (fun ra_2 rb_2 rc =>
               Ok93 g edgesV (fun ra_3 rb =>
               ∃ Jv_2 : Prop,
               ( ∃ k : Prop, (k →
                  (cnd (decide (((rb_2.length : Nat) : Int) > (0 : Int)))
                    (cnd (rb != (0 : Int))
                      (R false)
                      (Jv_2))
                    (Jv_2))) ∧
                cnd (((rb_2.length : Nat) : Int) == (0 : Int))
                  (cnd (rb == (0 : Int))
                    ((2 : Int) ≠ 0 ∧ cnd ((Int.tmod ((ra_3.length : Nat) : Int) (2 : Int)) == (1 : Int))
                      (R false)
                      (cnd (decide (((rb_2.length : Nat) : Int) > (0 : Int)))
                        (cnd (rb != (0 : Int))
                          (R false)
                          (Jv_2))
                        (Jv_2)))
                    (k))
                  (k)) ∧
               (Jv_2 →
               ((edgesV.length : Nat) : Int) ≠ 0 ∧ Ok96 g edgesV (Int.tmod ev ((edgesV.length : Nat) : Int)) (fun ra ra_4 rb2 =>
               Ok96 ra ra_4 (Int.tmod ev ((edgesV.length : Nat) : Int)) (fun ra2 ra_5 rb3 =>
               Ok90 ra2 ra_5 (fun ra_6 rb_3 rc2 =>
               cnd (rc2 == (0 : Int))
                 (cnd ((((rb_2.length : Nat) : Int) == (0 : Int)) == (((rb_3.length : Nat) : Int) == (0 : Int)))
                   (cnd (decide (((rb_2.length : Nat) : Int) > (0 : Int)))
                     (R true)
                     (cnd (((ra_6.length : Nat) : Int) == (IntKind.i64.wrap (g + (2 : Int))))
                       (0 ≤ g ∧ g ≤ ((ra_6.length : Nat) : Int) ∧ Ok68 (ra_6.take (Int.toNat g)) ra_2 (fun r3 =>
                       R r3))
                       (R false)))
                   (R false))
                 (R false)))))))))))))) ∧
    (Jv →
    R true)))

theorem ok21 {g edgesV ev} {R : Bool → Prop} (T : T21 g edgesV ev R) : Ok21 g edgesV ev R := by
  intro h gA gL gC H
  have Y : Sy h [] h _ := Sy.startM H rfl
  obtain rfl := Y.lenV 0 rfl
  apply calls21
  unfold S21
  unfold T21 at T
  intro hv
  have Y : Sy _ _ hv [_, _] := Y.junk _
  clear_value hv
  refine callX_sy (T _ (Hp.nil _)) (fun _ _ ⟨_, p, _⟩ => p.fr) (allc (fun h => by cases h) alln) ?_
  rintro v hv2 ⟨r, PP, rfl, T⟩
  have Y : Sy _ _ hv2 [_, _] := Y.gr PP.fr
  clear PP
  refine ⟨r, rfl, ?_⟩
  refine cnd_imp T (fun T => ?_) (fun T => ?_)
  · exact ⟨_, Y.pick [] rfl, rfl, T⟩
  · obtain ⟨Jv, T0, T1⟩ := T
    obtain ⟨B, hB, _⟩ := Y.cut [] [0, 1] rfl
    intro K
    have hK : ∀  (hv4 : Heap), (Sy h [] hv4 ([] ++ B) ∧ Jv) → K hv4 := by
      subst hB
      clear T0 Y
      rintro hv4 ⟨Y, T⟩
      replace T := T1 T
      have Y : Sy _ _ _ [_, _] := Y
      unfold K
      exact ⟨_, Y.pick [] rfl, rfl, T⟩
    subst hB
    replace T := T0
    clear T0 T1
    refine callX_sy (T _ _ _ _ (Y.pick [0] rfl).hp) (fun _ _ ⟨_, p, _⟩ => p.fr) (allc (fun h => by cases h) alln) ?_
    rintro v2 hv3 ⟨r2, PP, rfl, T⟩
    have Y : Sy _ _ hv3 [_, _] := Y.gr PP.fr
    clear PP
    refine ⟨r2, rfl, ?_⟩
    refine cnd_imp T (fun T => ?_) (fun T => ?_)
    · exact hK _ ⟨Y.pick [0, 1] rfl, T⟩
    · refine cnd_imp T (fun T => ?_) (fun T => ?_)
      · exact hK _ ⟨Y.pick [0, 1] rfl, T⟩
      · refine cnd_imp T (fun T => ?_) (fun T => ?_)
        · exact hK _ ⟨Y.pick [0, 1] rfl, T⟩
        · refine cnd_imp T (fun T => ?_) (fun T => ?_)
          · exact hK _ ⟨Y.pick [0, 1] rfl, T⟩
          · refine cnd_imp T (fun T => ?_) (fun T => ?_)
            · exact ⟨_, Y.pick [] rfl, rfl, T⟩
            · refine callX_sy (T _ _ _ _ (Y.pick [0] rfl).hp) (fun _ _ ⟨_, _, _, _, _, _, _, _, _, p, _⟩ => p.fr) (allc (fun h => by cases h) alln) ?_
              rintro v3 hv5 ⟨raA, raL, raC, ra_2, rbA, rbL, rbC, rb_2, rc, PP, rfl, T⟩
              have Y : Sy _ _ hv5 [_, _, _, _] := Y.callV PP ⟨rfl, ⟨rfl, trivial⟩⟩
              clear PP
              obtain rfl := Y.lenS 2 rfl
              obtain rfl := Y.lenS 3 rfl
              refine ⟨_, _, _, _, _, _, rc, rfl, ?_⟩
              refine callX_sy (T _ _ _ _ (Y.pick [0] rfl).hp) (fun _ _ ⟨_, _, _, _, _, p, _⟩ => p.fr) (allc (fun h => by cases h) alln) ?_
              rintro v4 hv6 ⟨raA2, raL2, raC2, ra_3, rb, PP, rfl, T⟩
              have Y : Sy _ _ hv6 [_, _, _, _, _] := Y.callV PP ⟨rfl, trivial⟩
              clear PP
              obtain rfl := Y.lenS 4 rfl
              refine ⟨_, _, _, rb, rfl, ?_⟩
              obtain ⟨Jv_2, T0, T1⟩ := T
              obtain ⟨B_2, hB_2, _⟩ := Y.cut [] [0, 1, 2, 3, 4] rfl
              intro K2
              have hK2 : ∀  (hv7 : Heap), (Sy h [] hv7 ([] ++ B_2) ∧ Jv_2) → K2 hv7 := by
                subst hB_2
                clear T0 Y
                rintro hv7 ⟨Y, T⟩
                replace T := T1 T
                have Y : Sy _ _ _ [_, _, _, _, _] := Y
                unfold K2
                obtain ⟨q_3, T⟩ := T
                refine ⟨q_3, ?_⟩
                refine callX_sy (T _ _ _ _ (Y.pick [0] rfl).hp) (fun _ _ ⟨_, _, _, _, _, _, p, _⟩ => p.fr) (allc (fun h => by cases h) alln) ?_
                rintro v5 hv8 ⟨ra, raA3, raL3, raC3, ra_4, rb2, PP, rfl, T⟩
                have Y : Sy _ _ hv8 [_, _, _, _, _, _] := Y.callV PP ⟨rfl, trivial⟩
                clear PP
                obtain rfl := Y.lenS 5 rfl
                refine ⟨ra, _, _, _, rb2, rfl, ?_⟩
                intro hv9
                have Y : Sy _ _ hv9 [_, _, _, _, _, _, _] := Y.junk _
                clear_value hv9
                intro hv10
                have Y : Sy _ _ hv10 [_, _, _, _, _, _, _] := ((Y.stJ 6 rfl _ _).stJ 6 rfl _ _)
                clear_value hv10
                refine callX_sy (T _ _ _ _ ((Y.turn 5 rfl To.slvw).pick [5] rfl).hp) (fun _ _ ⟨_, _, _, _, _, _, p, _⟩ => p.fr) (allc (fun h => by cases h) (allc (fun h => by cases h) alln)) ?_
                rintro v6 hv11 ⟨ra2, raA4, raL4, raC4, ra_5, rb3, PP, rfl, T⟩
                have Y : Sy _ _ hv11 [_, _, _, _, _, _, _, _] := Y.callV PP ⟨rfl, trivial⟩
                clear PP
                obtain rfl := Y.lenS 7 rfl
                refine ⟨ra2, _, _, _, rb3, rfl, ?_⟩
                intro hv12
                have Y : Sy _ _ hv12 [_, _, _, _, _, _, _, _] := ((Y.stJ 6 rfl _ _).stJ 6 rfl _ _)
                clear_value hv12
                refine callX_sy (T _ _ _ _ ((Y.turn 7 rfl To.slvw).pick [7] rfl).hp) (fun _ _ ⟨_, _, _, _, _, _, _, _, _, p, _⟩ => p.fr) (allc (fun h => by cases h) (allc (fun h => by cases h) alln)) ?_
                rintro v7 hv13 ⟨raA5, raL5, raC5, ra_6, rbA2, rbL2, rbC2, rb_3, rc2, PP, rfl, T⟩
                have Y : Sy _ _ hv13 [_, _, _, _, _, _, _, _, _, _] := Y.callV PP ⟨rfl, ⟨rfl, trivial⟩⟩
                clear PP
                obtain rfl := Y.lenS 8 rfl
                obtain rfl := Y.lenS 9 rfl
                refine ⟨_, _, _, _, _, _, rc2, rfl, ?_⟩
                refine cnd_imp T (fun T => ?_) (fun T => ?_)
                · refine cnd_imp T (fun T => ?_) (fun T => ?_)
                  · refine cnd_imp T (fun T => ?_) (fun T => ?_)
                    · exact ⟨_, Y.pick [] rfl, rfl, T⟩
                    · refine cnd_imp T (fun T => ?_) (fun T => ?_)
                      · obtain ⟨q, q_2, T⟩ := T
                        refine ⟨q, (by have := (Y.capS 8 rfl).1; omega), ?_⟩
                        try rw [slice0]
                        refine callX_sy (T _ _ _ _ _ _ _ (((Y.turn 8 rfl (To.slvwT (Int.toNat g) (by omega))).turn 2 rfl To.slvw).pick [8, 2] rfl).hp) (fun _ _ ⟨_, p, _⟩ => p.fr) (allc (fun h => by cases h) (allc (fun h => by cases h) alln)) ?_
                        rintro v8 hv14 ⟨r3, PP, rfl, T⟩
                        have Y : Sy _ _ hv14 [_, _, _, _, _, _, _, _, _, _] := Y.gr PP.fr
                        clear PP
                        refine ⟨r3, rfl, ?_⟩
                        exact ⟨_, Y.pick [] rfl, rfl, T⟩
                      · exact ⟨_, Y.pick [] rfl, rfl, T⟩
                  · exact ⟨_, Y.pick [] rfl, rfl, T⟩
                · exact ⟨_, Y.pick [] rfl, rfl, T⟩
              subst hB_2
              replace T := T0
              clear T0 T1
              obtain ⟨kT, T0, T⟩ := T
              intro k
              have hk : kT → k := fun qk => by
                replace T := T0 qk
                clear T0
                unfold k
                refine cnd_imp T (fun T => ?_) (fun T => ?_)
                · refine cnd_imp T (fun T => ?_) (fun T => ?_)
                  · exact ⟨_, Y.pick [] rfl, rfl, T⟩
                  · exact hK2 _ ⟨Y.pick [0, 1, 2, 3, 4] rfl, T⟩
                · exact hK2 _ ⟨Y.pick [0, 1, 2, 3, 4] rfl, T⟩
              clear T0
              refine cnd_imp T (fun T => ?_) (fun T => ?_)
              · refine cnd_imp T (fun T => ?_) (fun T => ?_)
                · obtain ⟨q_4, T⟩ := T
                  refine ⟨q_4, ?_⟩
                  refine cnd_imp T (fun T => ?_) (fun T => ?_)
                  · exact ⟨_, Y.pick [] rfl, rfl, T⟩
                  · refine cnd_imp T (fun T => ?_) (fun T => ?_)
                    · refine cnd_imp T (fun T => ?_) (fun T => ?_)
                      · exact ⟨_, Y.pick [] rfl, rfl, T⟩
                      · exact hK2 _ ⟨Y.pick [0, 1, 2, 3, 4] rfl, T⟩
                    · exact hK2 _ ⟨Y.pick [0, 1, 2, 3, 4] rfl, T⟩
                · exact hk T
              · exact hk T

end Go.Proofs.Ytmcloipjlihhlaa.N
