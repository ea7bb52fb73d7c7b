/- Functions: what is left to be shown of each, over memory and without: printed by program, tied to the loaded functions by the kernel. Conditions: none. -/
import Derived.Test.YtmcloipjlihhlaaSEnv
import Derived.Test.YtmcloipjlihhlaaYMore
import Derived.Test.YtmcloipjlihhlaaTMay
import Derived.Test.YtmcloipjlihhlaaTKind
namespace Go.Proofs.Ytmcloipjlihhlaa.N
open Go.Proofs.Ytmcloipjlihhlaa
open Go.X
set_option maxRecDepth 100000
set_option linter.unusedVariables false
set_option linter.unusedSimpArgs false
set_option maxHeartbeats 2000000

/-- tracery/net.chosen -/
def S223 (lA : Option Addr) (lL lC : Nat) (n : Int) (h : Heap) (R : Value → Heap → Prop) : Prop :=
  0 ≤ n ∧ n ≤ n ∧ ((1 : Nat) : Int) * n ≤ 281474976710656 ∧ n ≤ 9223372036854775807 ∧ let hv : Heap := h.push (.cells (madeCells (List.toArray [.bool false]) (Int.toNat n * 1)) 4)
  ∃ (Iv : List Value → Heap → Prop) (m : List Value → Heap → Nat), Iv [.int .i64 0] hv ∧ -- loop 0: ['12']
  ∀ x : Int, ∀ hv2, Iv [.int .i64 x] hv2 →
  cnd (decide (x < ((lL : Nat) : Int)))
    (∃ b o, lA = some ⟨b, o, none⟩ ∧ 0 ≤ x ∧ x < (lL : Nat) ∧ ∃ x2 : Int, hcell hv2 b (o + (Int.toNat x) * 1) = some (.int .i64 x2) ∧ cnd (decide (x2 < (0 : Int)))
      (R (.int .i64 2) hv2)
      (cnd (decide (x2 ≥ n))
        (R (.int .i64 2) hv2)
        (∃ b2 o2, (some (⟨h.size, 0, none⟩ : Addr)) = some ⟨b2, o2, none⟩ ∧ 0 ≤ x2 ∧ x2 < ((Int.toNat n) : Nat) ∧ ∃ x3 : Bool, hcell hv2 b2 (o2 + (Int.toNat x2) * 1) = some (.bool x3) ∧ cnd x3
          (R (.int .i64 18) hv2)
          (∃ b3 o3, (some (⟨h.size, 0, none⟩ : Addr)) = some ⟨b3, o3, none⟩ ∧ 0 ≤ x2 ∧ x2 < ((Int.toNat n) : Nat) ∧ (∃ u, hcell hv2 b3 (o3 + (Int.toNat x2) * 1) = some u) ∧ hfree hv2 b3 (o3 + (Int.toNat x2) * 1) = true ∧ let hv3 : Heap := hset hv2 b3 (o3 + (Int.toNat x2) * 1) (.bool true)
          Iv [.int .i64 (IntKind.i64.wrap (x + (1 : Int)))] hv3 ∧ m [.int .i64 (IntKind.i64.wrap (x + (1 : Int)))] hv3 < m [.int .i64 x] hv2))))
    (R (.int .i64 0) hv2)
theorem calls223 {h : Heap} {R : Value → Heap → Prop} (lA : Option Addr) (lL lC : Nat) (n : Int) (H : S223 lA lL lC n h R) : CallsH Try.prog 223 #[.slice lA lL lC, .int .i64 n] h R := by
  have e : S223 lA lL lC n h R = FX (envX [] 31) { loops := [(0, ⟨[1, 5, 10, 11], [12], [], []⟩)], joins := [], blocks := [], draws := [] } Try.f223 (Try.f223.body.getD .skip) [.slice lA lL lC, .int .i64 n] h R := by kernel_rfl
  exact calls_of_FX (envX_ok _ _) Try.func223 (by kernel_rfl) (by kernel_rfl) (by kernel_rfl) (e ▸ H)
/-- tracery/net.chosen -/
def Ok223 (lV : List Int) (n : Int) (R : Int → Prop) : Prop :=
  ∀ (h : Heap) (lA : Option Addr) (lL lC : Nat), Hp h [Ck.vw eI lA lL lC lV] → CallsH Try.prog 223 #[.slice lA lL lC, .int .i64 n] h fun v h' => ∃ (rV : Int), Sy h [] h' [] ∧ v = .int .i64 rV ∧ R rV
theorem Ok223.mono {lV n} {R R' : Int → Prop} (H : Ok223 lV n R) (kz : ∀ rV, R rV → R' rV) : Ok223 lV n R' :=
  fun h lA lL lC hp => (H h lA lL lC hp).mono fun _ _ ⟨rV, P, e, q⟩ => ⟨rV, P, e, kz _ q⟩
def T223 (lV : List Int) (n : Int) (R : Int → Prop) : Prop :=
  0 ≤ n ∧ n ≤ 1000000000000 ∧ ∃ (Iv : Int → List Bool → Prop) (m : Int → List Bool → Nat), Iv 0 (List.replicate (Int.toNat n) false) ∧
  ∀ x : Int, ∀ x_2 : List Bool, Iv x x_2 →
  cnd (decide (x < ((lV.length : Nat) : Int)))
    (0 ≤ x ∧ x < ((lV.length : Nat) : Int) ∧ ∀ l : Int, lV[(Int.toNat x)]? = some l → cnd (decide (l < (0 : Int)))
      (R 2)
      (cnd (decide (l ≥ n))
        (R 2)
        (0 ≤ l ∧ l < (((Int.toNat n) : Nat) : Int) ∧ ∀ x_3 : Bool, x_2[(Int.toNat l)]? = some x_3 → cnd x_3
          (R 18)
          (Iv (IntKind.i64.wrap (x + (1 : Int))) (x_2.set (Int.toNat l) true) ∧ m (IntKind.i64.wrap (x + (1 : Int))) (x_2.set (Int.toNat l) true) < m x x_2))))
    (R 0)
theorem ok223 {lV n} {R : Int → Prop} (T : T223 lV n R) : Ok223 lV n R := by
  intro h lA lL lC H
  have Y : Sy h [] h _ := Sy.startM H rfl
  obtain rfl := Y.lenV 0 rfl
  apply calls223
  unfold S223
  unfold T223 at T
  obtain ⟨q, q_3, T⟩ := T
  refine ⟨q, Int.le_refl _, by omega, by omega, ?_⟩
  intro hv
  have Y : Sy _ _ hv [_, _] := Y.mkS (E := eB) (ty := 4) false (Int.toNat n) (Int.toNat n) (Nat.le_refl _) (by simp [maxLen]; omega)
  clear_value hv
  obtain ⟨Iv, m, T0, T1⟩ := T
  obtain ⟨B, hB, YB⟩ := Y.cut [1] [0] rfl
  obtain ⟨F, hF⟩ := Y.fnS (k := 1) rfl
  obtain ⟨JJ, hJJ⟩ : ∃ JJ : Nat → List Value → Heap → Prop, JJ = (fun k lz h' => ∃ (x : Int) (x_2 : List Bool), lz = [.int .i64 x] ∧ Sy h [] h' ([F x_2] ++ B) ∧ Iv x x_2 ∧ m x x_2 = k) := ⟨_, rfl⟩
  refine ⟨fun lz h' => ∃ k, JJ k lz h', Lm JJ, ?_, ?_⟩
  · subst hJJ hB hF
    exact ⟨_, _, _, rfl, YB, T0, rfl⟩
  · clear YB T0 Y
    intro x hv2 hI
    obtain ⟨k, hI, hm⟩ := loopIn hI
    subst hJJ hB hF
    obtain ⟨x, x_2, e, Y, T, rfl⟩ := hI
    cases e
    replace T := T1 x x_2 T
    have Y : Sy _ _ _ [_, _] := Y
    refine cnd_imp T (fun T => ?_) (fun T => ?_)
    · obtain ⟨q_4, q_5, T⟩ := T
      obtain ⟨b_2, o_2, hb, hr, l, hx⟩ := Y.atV 1 rfl q_4 q_5
      refine ⟨b_2, o_2, hb, q_4, q_5, ?_⟩
      replace T := T l hx
      refine ⟨_, Y.cellV 1 rfl hb (t := 0) hx rfl, ?_⟩
      refine cnd_imp T (fun T => ?_) (fun T => ?_)
      · exact ⟨_, Y.pick [] rfl, rfl, T⟩
      · refine cnd_imp T (fun T => ?_) (fun T => ?_)
        · exact ⟨_, Y.pick [] rfl, rfl, T⟩
        · obtain ⟨q_6, q_7, T⟩ := T
          obtain ⟨b_3, hb_2, ho, x_3, hx_2⟩ := Y.atS 0 rfl q_6 q_7
          refine ⟨b_3, 0, hb_2, q_6, q_7, ?_⟩
          replace T := T x_3 hx_2
          refine ⟨_, Y.cellS 0 rfl hb_2 (t := 0) hx_2 rfl, ?_⟩
          refine cnd_imp T (fun T => ?_) (fun T => ?_)
          · exact ⟨_, Y.pick [] rfl, rfl, T⟩
          · refine ⟨b_3, 0, hb_2, q_6, q_7, ?_⟩
            refine ⟨Y.cellEx 0 rfl hb_2 (t := 0) (by omega) (by decide), Y.freeS 0 rfl hb_2 _, ?_⟩
            intro hv3
            have Y : Sy _ _ hv3 [_, _] := Y.st1 0 rfl hb_2 true (by omega) rfl
            clear_value hv3
            exact loopBack hm ⟨_, _, rfl, Y.pick [0, 1] rfl, T.1, rfl⟩ T.2
    · exact ⟨_, Y.pick [] rfl, rfl, T⟩
/-- tracery/net.Sub -/
def S206 (g : Int) (gA : Option Addr) (gL gC : Nat) (keepA : Option Addr) (keepL keepC : Nat) (h : Heap) (R : Value → Heap → Prop) : Prop :=
  let hv : Heap := h.push (.cells #[.int .i64 g, .slice gA gL gC] 26)
  let hv2 : Heap := hv.push (.cells #[.int .i64 0, .slice none 0 0] 26)
  callX Try.prog 140 #[.agg #[.int .i64 g, .slice gA gL gC]] hv2 [hv.size, h.size] fun v hv3 =>
  ∃ r : Bool, v = .bool r ∧
  cnd (!r)
    (let hv4 : Heap := hset (hset hv3 hv.size 0 (.int .i64 0)) hv.size (0 + 1) (.slice none 0 0)
    R (.tuple #[.agg #[.int .i64 0, .slice none 0 0], .int .i64 1]) hv4)
    (callX Try.prog 223 #[.slice keepA keepL keepC, .int .i64 ((gL : Nat) : Int)] hv3 [hv.size, h.size] fun v2 hv5 =>
    ∃ r2 : Int, v2 = .int .i64 r2 ∧
    cnd (r2 != (0 : Int))
      (let hv6 : Heap := hset (hset hv5 hv.size 0 (.int .i64 0)) hv.size (0 + 1) (.slice none 0 0)
      R (.tuple #[.agg #[.int .i64 0, .slice none 0 0], .int .i64 r2]) hv6)
      (let hv7 : Heap := hv5.push (.cells #[.int .i64 0, .slice none 0 0] 26)
      let hv8 : Heap := hset (hset hv7 hv5.size 0 (.int .i64 g)) hv5.size (0 + 1) (.slice none 0 0)
      ∃ (Iv : List Value → Heap → Prop) (m : List Value → Heap → Nat), Iv [.int .i64 0, .int .i64 g, .slice none 0 0] hv8 ∧ -- loop 0: ['28']
      ∀ x : Int, ∀ c0 : Int, ∀ (c1A : Option Addr) (c1L c1C : Nat), ∀ hv9, Iv [.int .i64 x, .int .i64 c0, .slice c1A c1L c1C] hv9 →
      cnd (decide (x < ((keepL : Nat) : Int)))
        (∃ b o, keepA = some ⟨b, o, none⟩ ∧ 0 ≤ x ∧ x < (keepL : Nat) ∧ ∃ x2 : Int, hcell hv9 b (o + (Int.toNat x) * 1) = some (.int .i64 x2) ∧ ∃ b2 o2, gA = some ⟨b2, o2, none⟩ ∧ 0 ≤ x2 ∧ x2 < (gL : Nat) ∧ ∃ x3 : Int, hcell hv9 b2 (o2 + (Int.toNat x2) * 2) = some (.int .i64 x3) ∧ ∃ x4 : Int, hcell hv9 b2 ((o2 + (Int.toNat x2) * 2) + 1) = some (.int .i64 x4) ∧ let hv10 : Heap := hv9.push (.cells #[.int .i64 x3, .int .i64 x4] 35)
        Fr [] hv9 hv10 ∧
        ∃ old, Ownd hv10 35 2 c1A c1L c1C old ∧ (∀ b ∈ ([hv9.size, hv5.size, h.size, hv.size] : List Nat), b ∉ blkOf c1A) ∧ (c1L + 1) * 16 ≤ 140737488355328 ∧ (c1L + 1) ≤ maxLen ∧
        ∀ sA sC hv11, Ownd hv11 35 2 sA (c1L + 1) sC (old ++ [.int .i64 x3, .int .i64 x4]) → Fr (blkOf c1A) hv10 hv11 → ((sA = c1A ∧ sC = c1C) ∨ ∃ g, sA = some ⟨g, 0, none⟩ ∧ hv10.size ≤ g) → (c1C < (c1L + 1) → Fr [] hv10 hv11) →
        let hv12 : Heap := hset hv11 hv5.size 1 (.slice sA (c1L + 1) sC)
        Iv [.int .i64 (IntKind.i64.wrap (x + (1 : Int))), .int .i64 c0, .slice sA (c1L + 1) sC] hv12 ∧ m [.int .i64 (IntKind.i64.wrap (x + (1 : Int))), .int .i64 c0, .slice sA (c1L + 1) sC] hv12 < m [.int .i64 x, .int .i64 c0, .slice c1A c1L c1C] hv9)
        (let hv13 : Heap := hset (hset hv9 hv.size 0 (.int .i64 c0)) hv.size (0 + 1) (.slice c1A c1L c1C)
        R (.tuple #[.agg #[.int .i64 c0, .slice c1A c1L c1C], .int .i64 0]) hv13)))
theorem calls206 {h : Heap} {R : Value → Heap → Prop} (g : Int) (gA : Option Addr) (gL gC : Nat) (keepA : Option Addr) (keepL keepC : Nat) (H : S206 g gA gL gC keepA keepL keepC h R) : CallsH Try.prog 206 #[.agg #[.int .i64 g, .slice gA gL gC], .slice keepA keepL keepC] h R := by
  have e : S206 g gA gL gC keepA keepL keepC h R = FX (envX [2, 4, 7, 39] 44) { loops := [(0, ⟨[2, 4, 7, 26, 27], [28], [2, 4], [7]⟩)], joins := [], blocks := [], draws := [(10, ⟨8, false⟩)] } Try.f206 (Try.f206.body.getD .skip) [.agg #[.int .i64 g, .slice gA gL gC], .slice keepA keepL keepC] h R := by kernel_rfl
  exact calls_of_FX (envX_ok _ _) Try.func206 (by kernel_rfl) (by kernel_rfl) (by kernel_rfl) (e ▸ H)
/-- tracery/net.Sub -/
def Ok206 (g : Int) (edgesV : List (Int × Int)) (keepV : List Int) (R : Int → List (Int × Int) → Int → Prop) : Prop :=
  ∀ (h : Heap) (gA : Option Addr) (gL gC : Nat) (keepA : Option Addr) (keepL keepC : Nat), Hp h [Ck.vw eP gA gL gC edgesV, Ck.vw eI keepA keepL keepC keepV] → CallsH Try.prog 206 #[.agg #[.int .i64 g, .slice gA gL gC], .slice keepA keepL keepC] h fun v h' => ∃ (nV : Int) (edgesVA : Option Addr) (edgesVL edgesVC : Nat) (edgesV2 : List (Int × Int)) (rbV : Int), Sy h [] h' [Ck.sl eP 35 edgesVA edgesVL edgesVC edgesV2] ∧ v = .tuple #[.agg #[.int .i64 nV, .slice edgesVA edgesVL edgesVC], .int .i64 rbV] ∧ R nV edgesV2 rbV
theorem Ok206.mono {g edgesV keepV} {R R' : Int → List (Int × Int) → Int → Prop} (H : Ok206 g edgesV keepV R) (kz : ∀ nV edgesV2 rbV, R nV edgesV2 rbV → R' nV edgesV2 rbV) : Ok206 g edgesV keepV R' :=
  fun h gA gL gC keepA keepL keepC hp => (H h gA gL gC keepA keepL keepC hp).mono fun _ _ ⟨nV, edgesVA, edgesVL, edgesVC, edgesV2, rbV, P, e, q⟩ => ⟨nV, edgesVA, edgesVL, edgesVC, edgesV2, rbV, P, e, kz _ _ _ q⟩
def T206 (g : Int) (edgesV : List (Int × Int)) (keepV : List Int) (R : Int → List (Int × Int) → Int → Prop) : Prop :=
  Ok140 g edgesV (fun r =>
  cnd (!r)
    (R 0 ([] : List (Int × Int)) 1)
    (Ok223 keepV ((edgesV.length : Nat) : Int) (fun r2 =>
    cnd (r2 != (0 : Int))
      (R 0 ([] : List (Int × Int)) r2)
      (∃ (Iv : Int → Int → List (Int × Int) → Prop) (m : Int → Int → List (Int × Int) → Nat), Iv 0 g ([] : List (Int × Int)) ∧
      ∀ x : Int, ∀ c0 : Int, ∀ c1 : List (Int × Int), Iv x c0 c1 →
      cnd (decide (x < ((keepV.length : Nat) : Int)))
        (0 ≤ x ∧ x < ((keepV.length : Nat) : Int) ∧ ∀ keep : Int, keepV[(Int.toNat x)]? = some keep → 0 ≤ keep ∧ keep < ((edgesV.length : Nat) : Int) ∧ ∀ g_2 : (Int × Int), edgesV[(Int.toNat keep)]? = some g_2 → (c1.length + 1) < 1000000000000 ∧ Iv (IntKind.i64.wrap (x + (1 : Int))) c0 (c1 ++ [(g_2.1, g_2.2)]) ∧ m (IntKind.i64.wrap (x + (1 : Int))) c0 (c1 ++ [(g_2.1, g_2.2)]) < m x c0 c1)
        (R c0 c1 0)))))
theorem ok206 {g edgesV keepV} {R : Int → List (Int × Int) → Int → Prop} (T : T206 g edgesV keepV R) : Ok206 g edgesV keepV R := by
  intro h gA gL gC keepA keepL keepC H
  have Y : Sy h [] h _ := Sy.startM H rfl
  obtain rfl := Y.lenV 0 rfl
  obtain rfl := Y.lenV 1 rfl
  apply calls206
  unfold S206
  unfold T206 at T
  intro hv
  have Y : Sy _ _ hv [_, _, _] := Y.junk _
  clear_value hv
  intro hv2
  have Y : Sy _ _ hv2 [_, _, _, _] := Y.junk _
  clear_value hv2
  refine callX_sy (T _ _ _ _ (Y.pick [0] rfl).hp) (fun _ _ ⟨_, p, _⟩ => p.fr) (allc (fun h => by cases h) (allc (fun h => by cases h) alln)) ?_
  rintro v hv3 ⟨r, PP, rfl, T⟩
  have Y : Sy _ _ hv3 [_, _, _, _] := Y.gr PP.fr
  clear PP
  refine ⟨r, rfl, ?_⟩
  refine cnd_imp T (fun T => ?_) (fun T => ?_)
  · intro hv4
    have Y : Sy _ _ hv4 [_, _, _, _] := ((Y.stJ 3 rfl _ _).stJ 3 rfl _ _)
    clear_value hv4
    have Y : Sy _ _ _ [_, _, _, _, _] := Y.nilS eP 35
    exact ⟨_, _, _, _, _, _, Y.pick [4] rfl, rfl, T⟩
  · refine callX_sy (T _ _ _ _ (Y.pick [1] rfl).hp) (fun _ _ ⟨_, p, _⟩ => p.fr) (allc (fun h => by cases h) (allc (fun h => by cases h) alln)) ?_
    rintro v2 hv5 ⟨r2, PP, rfl, T⟩
    have Y : Sy _ _ hv5 [_, _, _, _] := Y.gr PP.fr
    clear PP
    refine ⟨r2, rfl, ?_⟩
    refine cnd_imp T (fun T => ?_) (fun T => ?_)
    · intro hv6
      have Y : Sy _ _ hv6 [_, _, _, _] := ((Y.stJ 3 rfl _ _).stJ 3 rfl _ _)
      clear_value hv6
      have Y : Sy _ _ _ [_, _, _, _, _] := Y.nilS eP 35
      exact ⟨_, _, _, _, _, _, Y.pick [4] rfl, rfl, T⟩
    · intro hv7
      have Y : Sy _ _ hv7 [_, _, _, _, _] := Y.junk _
      clear_value hv7
      intro hv8
      have Y : Sy _ _ hv8 [_, _, _, _, _] := ((Y.stJ 4 rfl _ _).stJ 4 rfl _ _)
      clear_value hv8
      have Y : Sy _ _ _ [_, _, _, _, _, _] := Y.nilS eP 35
      obtain ⟨Iv, m, T0, T1⟩ := T
      obtain ⟨B, hB, YB⟩ := Y.cut [5] [0, 1, 2, 3, 4] rfl
      obtain ⟨JJ, hJJ⟩ : ∃ JJ : Nat → List Value → Heap → Prop, JJ = (fun k lz h' => ∃ (x : Int) (c0 : Int) (c1A : Option Addr) (c1L c1C : Nat) (c1 : List (Int × Int)), lz = [.int .i64 x, .int .i64 c0, .slice c1A c1L c1C] ∧ Sy h [] h' ([Ck.sl eP 35 c1A c1L c1C c1] ++ B) ∧ Iv x c0 c1 ∧ m x c0 c1 = k) := ⟨_, rfl⟩
      refine ⟨fun lz h' => ∃ k, JJ k lz h', Lm JJ, ?_, ?_⟩
      · subst hJJ hB
        exact ⟨_, _, _, _, _, _, _, rfl, YB, T0, rfl⟩
      · clear YB T0 Y
        intro x c0 c1A c1L c1C hv9 hI
        obtain ⟨k, hI, hm⟩ := loopIn hI
        subst hJJ hB
        obtain ⟨x, c0, c1A, c1L, c1C, c1, e, Y, T, rfl⟩ := hI
        cases e
        obtain rfl := Y.lenS 0 rfl
        replace T := T1 x c0 c1 T
        have Y : Sy _ _ _ [_, _, _, _, _, _] := Y
        refine cnd_imp T (fun T => ?_) (fun T => ?_)
        · obtain ⟨q, q_2, T⟩ := T
          obtain ⟨b_2, o_2, hb, hr, keep, hx⟩ := Y.atV 2 rfl q q_2
          refine ⟨b_2, o_2, hb, q, q_2, ?_⟩
          replace T := T keep hx
          refine ⟨_, Y.cellV 2 rfl hb (t := 0) hx rfl, ?_⟩
          have Y0 := Y
          have F : Fr [] hv9 hv9 := Fr.refl _ _
          obtain ⟨q_3, q_4, T⟩ := T
          obtain ⟨b_3, o_3, hb_2, hr_2, g_2, hx_2⟩ := Y0.atV 1 rfl q_3 q_4
          refine ⟨b_3, o_3, hb_2, q_3, q_4, ?_⟩
          replace T := T g_2 hx_2
          refine ⟨_, Y0.cellV 1 rfl hb_2 (t := 0) hx_2 rfl, ?_⟩
          refine ⟨_, Y0.cellV 1 rfl hb_2 (t := 1) hx_2 rfl, ?_⟩
          intro hv10
          have Y : Sy _ _ hv10 [_, _, _, _, _, _, _] := Y.junk _
          have F : Fr _ _ hv10 := F.pushr _
          have fshv10 := F.size
          clear_value hv10
          refine ⟨F, ?_⟩
          obtain ⟨q_5, T⟩ := T
          refine ⟨_, Y.ownS 0 rfl, (allc (Y.nJ 0 6 rfl rfl rfl) (allc (Y.nJ 0 5 rfl rfl rfl) (allc (Y.nJ 0 3 rfl rfl rfl) (allc (Y.nJ 0 4 rfl rfl rfl) alln)))), by first | exact appB q_5 (by decide) | omega, by first | exact appM q_5 | (simp [maxLen]; omega), ?_⟩
          intro sA sC hv11 ow fA gA gB
          have Y : Sy _ _ hv11 [_, _, _, _, _, _, _] := Y.appS 0 rfl ([(g_2.1, g_2.2)] : List (Int × Int)) ow fA gA rfl rfl
          intro hv12
          have Y : Sy _ _ hv12 [_, _, _, _, _, _, _] := (Y.stJ 5 rfl _ _)
          clear_value hv12
          exact loopBack hm ⟨_, _, _, _, _, _, rfl, Y.pick [0, 1, 2, 3, 4, 5] rfl, T.1, rfl⟩ T.2
        · intro hv13
          have Y : Sy _ _ hv13 [_, _, _, _, _, _] := ((Y.stJ 4 rfl _ _).stJ 4 rfl _ _)
          clear_value hv13
          exact ⟨_, _, _, _, _, _, Y.pick [0] rfl, rfl, T⟩
/-- tracery/kura.faulty -/
def S156 (g : Int) (gA : Option Addr) (gL gC : Nat) (edgesA : Option Addr) (edgesL edgesC : Nat) (h : Heap) (R : Value → Heap → Prop) : Prop :=
  let hv : Heap := h.push (.cells #[.int .i64 g, .slice gA gL gC] 26)
  callX Try.prog 140 #[.agg #[.int .i64 g, .slice gA gL gC]] hv [h.size] fun v hv2 =>
  ∃ r : Bool, v = .bool r ∧
  cnd (!r)
    (R (.int .i64 1) hv2)
    (callX Try.prog 206 #[.agg #[.int .i64 g, .slice gA gL gC], .slice edgesA edgesL edgesC] hv2 [h.size] fun v2 hv3 =>
    ∃ ra : Int, ∃ (raA : Option Addr) (raL raC : Nat), ∃ rb : Int, v2 = .tuple #[.agg #[.int .i64 ra, .slice raA raL raC], .int .i64 rb] ∧
    let hv4 : Heap := hv3.push (.cells #[.int .i64 0, .slice none 0 0] 26)
    let hv5 : Heap := hset (hset hv4 hv3.size 0 (.int .i64 ra)) hv3.size (0 + 1) (.slice raA raL raC)
    R (.int .i64 rb) hv5)
theorem calls156 {h : Heap} {R : Value → Heap → Prop} (g : Int) (gA : Option Addr) (gL gC : Nat) (edgesA : Option Addr) (edgesL edgesC : Nat) (H : S156 g gA gL gC edgesA edgesL edgesC h R) : CallsH Try.prog 156 #[.agg #[.int .i64 g, .slice gA gL gC], .slice edgesA edgesL edgesC] h R := by
  have e : S156 g gA gL gC edgesA edgesL edgesC h R = FX (envX [2, 5] 17) { loops := [], joins := [], blocks := [], draws := [] } Try.f156 (Try.f156.body.getD .skip) [.agg #[.int .i64 g, .slice gA gL gC], .slice edgesA edgesL edgesC] h R := by kernel_rfl
  exact calls_of_FX (envX_ok _ _) Try.func156 (by kernel_rfl) (by kernel_rfl) (by kernel_rfl) (e ▸ H)
/-- tracery/kura.faulty -/
def Ok156 (g : Int) (edgesV : List (Int × Int)) (edgesV2 : List Int) (R : Int → Prop) : Prop :=
  ∀ (h : Heap) (gA : Option Addr) (gL gC : Nat) (edgesA : Option Addr) (edgesL edgesC : Nat), Hp h [Ck.vw eP gA gL gC edgesV, Ck.vw eI edgesA edgesL edgesC edgesV2] → CallsH Try.prog 156 #[.agg #[.int .i64 g, .slice gA gL gC], .slice edgesA edgesL edgesC] h fun v h' => ∃ (rV : Int), Sy h [] h' [] ∧ v = .int .i64 rV ∧ R rV
theorem Ok156.mono {g edgesV edgesV2} {R R' : Int → Prop} (H : Ok156 g edgesV edgesV2 R) (kz : ∀ rV, R rV → R' rV) : Ok156 g edgesV edgesV2 R' :=
  fun h gA gL gC edgesA edgesL edgesC hp => (H h gA gL gC edgesA edgesL edgesC hp).mono fun _ _ ⟨rV, P, e, q⟩ => ⟨rV, P, e, kz _ q⟩
def T156 (g : Int) (edgesV : List (Int × Int)) (edgesV2 : List Int) (R : Int → Prop) : Prop :=
  Ok140 g edgesV (fun r =>
  cnd (!r)
    (R 1)
    (Ok206 g edgesV edgesV2 (fun ra ra_2 rb =>
    R rb)))
theorem ok156 {g edgesV edgesV2} {R : Int → Prop} (T : T156 g edgesV edgesV2 R) : Ok156 g edgesV edgesV2 R := by
  intro h gA gL gC edgesA edgesL edgesC H
  have Y : Sy h [] h _ := Sy.startM H rfl
  obtain rfl := Y.lenV 0 rfl
  obtain rfl := Y.lenV 1 rfl
  apply calls156
  unfold S156
  unfold T156 at T
  intro hv
  have Y : Sy _ _ hv [_, _, _] := Y.junk _
  clear_value hv
  refine callX_sy (T _ _ _ _ (Y.pick [0] rfl).hp) (fun _ _ ⟨_, p, _⟩ => p.fr) (allc (fun h => by cases h) alln) ?_
  rintro v hv2 ⟨r, PP, rfl, T⟩
  have Y : Sy _ _ hv2 [_, _, _] := Y.gr PP.fr
  clear PP
  refine ⟨r, rfl, ?_⟩
  refine cnd_imp T (fun T => ?_) (fun T => ?_)
  · exact ⟨_, Y.pick [] rfl, rfl, T⟩
  · refine callX_sy (T _ _ _ _ _ _ _ (Y.pick [0, 1] rfl).hp) (fun _ _ ⟨_, _, _, _, _, _, p, _⟩ => p.fr) (allc (fun h => by cases h) alln) ?_
    rintro v2 hv3 ⟨ra, raA, raL, raC, ra_2, rb, PP, rfl, T⟩
    have Y : Sy _ _ hv3 [_, _, _, _] := Y.callV PP ⟨rfl, trivial⟩
    clear PP
    obtain rfl := Y.lenS 3 rfl
    refine ⟨ra, _, _, _, rb, rfl, ?_⟩
    intro hv4
    have Y : Sy _ _ hv4 [_, _, _, _, _] := Y.junk _
    clear_value hv4
    intro hv5
    have Y : Sy _ _ hv5 [_, _, _, _, _] := ((Y.stJ 4 rfl _ _).stJ 4 rfl _ _)
    clear_value hv5
    exact ⟨_, Y.pick [] rfl, rfl, T⟩
/-- (*tracery/kura.form).to -/
def S159 (fP : Option Addr) (hv : Int) (h : Heap) (R : Value → Heap → Prop) : Prop :=
  ∃ b o, fP = some ⟨b, o, none⟩ ∧ ∃ (xA : Option Addr) (xL xC : Nat), hcell h b (o + 1) = some (.slice xA xL xC) ∧ (2 : Int) ≠ 0 ∧ (2 : Int) ≠ 0 ∧ ∃ b2 o2, xA = some ⟨b2, o2, none⟩ ∧ 0 ≤ (IntKind.i64.wrap (Int.tdiv hv (2 : Int))) ∧ (IntKind.i64.wrap (Int.tdiv hv (2 : Int))) < (xL : Nat) ∧ 0 ≤ (IntKind.i64.wrap ((1 : Int) - (Int.tmod hv (2 : Int)))) ∧ (IntKind.i64.wrap ((1 : Int) - (Int.tmod hv (2 : Int)))) < ((2 : Nat) : Int) ∧ ∃ x : Int, hcell h b2 ((o2 + (Int.toNat (IntKind.i64.wrap (Int.tdiv hv (2 : Int)))) * 2) + (Int.toNat (IntKind.i64.wrap ((1 : Int) - (Int.tmod hv (2 : Int))))) * 1) = some (.int .i64 x) ∧ R (.int .i64 x) h
theorem calls159 {h : Heap} {R : Value → Heap → Prop} (fP : Option Addr) (hv : Int) (H : S159 fP hv h R) : CallsH Try.prog 159 #[.pointer fP, .int .i64 hv] h R := by
  have e : S159 fP hv h R = FX (envX [] 18) { loops := [], joins := [], blocks := [], draws := [] } Try.f159 (Try.f159.body.getD .skip) [.pointer fP, .int .i64 hv] h R := by kernel_rfl
  exact calls_of_FX (envX_ok _ _) Try.func159 (by kernel_rfl) (by kernel_rfl) (by kernel_rfl) (e ▸ H)
/-- (*tracery/kura.form).to -/
def Ok159 (nV : Int) (edgesV : List (Int × Int)) (outV : List (List Int)) (branchV : List Int) (pathsV : List (List Int)) (kindV : Int) (hv : Int) (R : Int → Prop) : Prop :=
  ∀ (h : Heap) (fB fO : Nat) (edgesVA : Option Addr) (edgesVL edgesVC : Nat) (outVA : Option Addr) (outVL outVC : Nat) (outH : List RowH) (branchVA : Option Addr) (branchVL branchVC : Nat) (pathsVA : Option Addr) (pathsVL pathsVC : Nat) (pathsH : List RowH), Hp h [Ck.vob fB fO [.int .i64 nV, .slice edgesVA edgesVL edgesVC, .slice outVA outVL outVC, .slice branchVA branchVL branchVC, .slice pathsVA pathsVL pathsVC, .int .i64 kindV], Ck.vw eP edgesVA edgesVL edgesVC edgesV, Ck.vrows eI outVA outVL outVC outH outV, Ck.vw eI branchVA branchVL branchVC branchV, Ck.vrows eI pathsVA pathsVL pathsVC pathsH pathsV] → CallsH Try.prog 159 #[.pointer (some ⟨fB, fO, none⟩), .int .i64 hv] h fun v h' => ∃ (rV : Int), Sy h [] h' [] ∧ v = .int .i64 rV ∧ R rV
theorem Ok159.mono {nV edgesV outV branchV pathsV kindV hv} {R R' : Int → Prop} (H : Ok159 nV edgesV outV branchV pathsV kindV hv R) (kz : ∀ rV, R rV → R' rV) : Ok159 nV edgesV outV branchV pathsV kindV hv R' :=
  fun h fB fO edgesVA edgesVL edgesVC outVA outVL outVC outH branchVA branchVL branchVC pathsVA pathsVL pathsVC pathsH hp => (H h fB fO edgesVA edgesVL edgesVC outVA outVL outVC outH branchVA branchVL branchVC pathsVA pathsVL pathsVC pathsH hp).mono fun _ _ ⟨rV, P, e, q⟩ => ⟨rV, P, e, kz _ q⟩
def T159 (nV : Int) (edgesV : List (Int × Int)) (outV : List (List Int)) (branchV : List Int) (pathsV : List (List Int)) (kindV : Int) (hv : Int) (R : Int → Prop) : Prop :=
  (2 : Int) ≠ 0 ∧ (2 : Int) ≠ 0 ∧ 0 ≤ (IntKind.i64.wrap (Int.tdiv hv (2 : Int))) ∧ (IntKind.i64.wrap (Int.tdiv hv (2 : Int))) < ((edgesV.length : Nat) : Int) ∧ 0 ≤ (IntKind.i64.wrap ((1 : Int) - (Int.tmod hv (2 : Int)))) ∧ (IntKind.i64.wrap ((1 : Int) - (Int.tmod hv (2 : Int)))) < ((2 : Nat) : Int) ∧ ∀ x_2 : (Int × Int), edgesV[(Int.toNat (IntKind.i64.wrap (Int.tdiv hv (2 : Int))))]? = some x_2 → R (nth2 x_2 (IntKind.i64.wrap ((1 : Int) - (Int.tmod hv (2 : Int)))))
theorem ok159 {nV edgesV outV branchV pathsV kindV hv} {R : Int → Prop} (T : T159 nV edgesV outV branchV pathsV kindV hv R) : Ok159 nV edgesV outV branchV pathsV kindV hv R := by
  intro h fB fO edgesVA edgesVL edgesVC outVA outVL outVC outH branchVA branchVL branchVC pathsVA pathsVL pathsVC pathsH H
  have Y : Sy h [] h _ := Sy.startM H rfl
  obtain rfl := Y.lenV 1 rfl
  obtain rfl := Y.lenW 2 rfl
  obtain rfl := Y.lenV 3 rfl
  obtain rfl := Y.lenW 4 rfl
  apply calls159
  unfold S159
  unfold T159 at T
  refine ⟨fB, fO, rfl, ?_⟩
  refine ⟨_, _, _, Y.cellW 0 rfl 1 rfl, ?_⟩
  obtain ⟨q_6, T⟩ := T
  refine ⟨q_6, ?_⟩
  obtain ⟨q_5, T⟩ := T
  refine ⟨q_5, ?_⟩
  obtain ⟨q, q_2, T⟩ := T
  obtain ⟨b_2, o_2, hb, hr, x_2, hx⟩ := Y.atV 1 rfl q q_2
  refine ⟨b_2, o_2, hb, q, q_2, ?_⟩
  obtain ⟨q_3, q_4, T⟩ := T
  refine ⟨q_3, q_4, ?_⟩
  replace T := T x_2 hx
  refine ⟨_, nth2_cell (Y.cellV 1 rfl hb (t := 0) hx rfl) (Y.cellV 1 rfl hb (t := 1) hx rfl) (by assumption) (by assumption), ?_⟩
  exact ⟨_, Y.pick [] rfl, rfl, T⟩
/-- (*tracery/kura.form).branches -/
def S207 (fP : Option Addr) (h : Heap) (R : Value → Heap → Prop) : Prop :=
  ∃ b o, fP = some ⟨b, o, none⟩ ∧ ∃ (xA : Option Addr) (xL xC : Nat), hcell h b (o + 2) = some (.slice xA xL xC) ∧ ∃ (Iv : List Value → Heap → Prop) (m : List Value → Heap → Nat), Iv [.int .i64 0, .int .i64 0] h ∧ -- loop 0: ['degree', '12']
  ∀ degree : Int, ∀ x : Int, ∀ hv, Iv [.int .i64 degree, .int .i64 x] hv →
  cnd (decide (x < ((xL : Nat) : Int)))
    (let K := fun (degree3 : Int) (hv9 : Heap) =>
      (Iv [.int .i64 degree3, .int .i64 (IntKind.i64.wrap (x + (1 : Int)))] hv9 ∧ m [.int .i64 degree3, .int .i64 (IntKind.i64.wrap (x + (1 : Int)))] hv9 < m [.int .i64 degree, .int .i64 x] hv)
    ∃ b2 o2, xA = some ⟨b2, o2, none⟩ ∧ 0 ≤ x ∧ x < (xL : Nat) ∧ ∃ (xA2 : Option Addr) (xL2 xC2 : Nat), hcell hv b2 (o2 + (Int.toNat x) * 1) = some (.slice xA2 xL2 xC2) ∧ cnd (((xL2 : Nat) : Int) == (0 : Int))
      (K degree hv)
      (∃ Jv : List Value → Heap → Prop, -- join 30 ['degree']
      ( cnd (((xL2 : Nat) : Int) == (2 : Int))
         (Jv [.int .i64 degree] hv)
         (cnd (decide (((xL2 : Nat) : Int) > (4 : Int)))
           (R (.tuple #[.int .i64 0, .bool false]) hv)
           (cnd (((xL2 : Nat) : Int) == (1 : Int))
             (R (.tuple #[.int .i64 0, .bool false]) hv)
             (cnd (degree != (0 : Int))
               (cnd (((xL2 : Nat) : Int) != degree)
                 (R (.tuple #[.int .i64 0, .bool false]) hv)
                 (∃ b3 o3, fP = some ⟨b3, o3, none⟩ ∧ ∃ (xA3 : Option Addr) (xL3 xC3 : Nat), hcell hv b3 (o3 + 3) = some (.slice xA3 xL3 xC3) ∧ let hv2 : Heap := hv.push (.cells #[.int .i64 x] 3)
                 ∃ old, Ownd hv2 3 1 xA3 xL3 xC3 old ∧ (∀ b ∈ ([hv.size] : List Nat), b ∉ blkOf xA3) ∧ (xL3 + 1) * 8 ≤ 140737488355328 ∧ (xL3 + 1) ≤ maxLen ∧
                 ∀ sA sC hv3, Ownd hv3 3 1 sA (xL3 + 1) sC (old ++ [.int .i64 x]) → Fr (blkOf xA3) hv2 hv3 → ((sA = xA3 ∧ sC = xC3) ∨ ∃ g, sA = some ⟨g, 0, none⟩ ∧ hv2.size ≤ g) → (xC3 < (xL3 + 1) → Fr [] hv2 hv3) →
                 ∃ b4 o4, fP = some ⟨b4, o4, none⟩ ∧ b4 ≠ hv.size ∧ (∃ u, hcell hv3 b4 (o4 + 3) = some u) ∧ hfree hv3 b4 (o4 + 3) = true ∧ let hv4 : Heap := hset hv3 b4 (o4 + 3) (.slice sA (xL3 + 1) sC)
                 Jv [.int .i64 ((xL2 : Nat) : Int)] hv4))
               (∃ b5 o5, fP = some ⟨b5, o5, none⟩ ∧ ∃ (xA4 : Option Addr) (xL4 xC4 : Nat), hcell hv b5 (o5 + 3) = some (.slice xA4 xL4 xC4) ∧ let hv5 : Heap := hv.push (.cells #[.int .i64 x] 3)
               ∃ old2, Ownd hv5 3 1 xA4 xL4 xC4 old2 ∧ (∀ b ∈ ([hv.size] : List Nat), b ∉ blkOf xA4) ∧ (xL4 + 1) * 8 ≤ 140737488355328 ∧ (xL4 + 1) ≤ maxLen ∧
               ∀ sA2 sC2 hv6, Ownd hv6 3 1 sA2 (xL4 + 1) sC2 (old2 ++ [.int .i64 x]) → Fr (blkOf xA4) hv5 hv6 → ((sA2 = xA4 ∧ sC2 = xC4) ∨ ∃ g, sA2 = some ⟨g, 0, none⟩ ∧ hv5.size ≤ g) → (xC4 < (xL4 + 1) → Fr [] hv5 hv6) →
               ∃ b6 o6, fP = some ⟨b6, o6, none⟩ ∧ b6 ≠ hv.size ∧ (∃ u, hcell hv6 b6 (o6 + 3) = some u) ∧ hfree hv6 b6 (o6 + 3) = true ∧ let hv7 : Heap := hset hv6 b6 (o6 + 3) (.slice sA2 (xL4 + 1) sC2)
               Jv [.int .i64 ((xL2 : Nat) : Int)] hv7))))) ∧
      ∀ degree2 : Int, ∀ hv8, Jv [.int .i64 degree2] hv8 →
      K degree2 hv8))
    (let K3 := fun (hv11 : Heap) =>
      (R (.tuple #[.int .i64 degree, .bool false]) hv11)
    let K2 := fun (ok : Bool) (hv10 : Heap) =>
      (R (.tuple #[.int .i64 degree, .bool ok]) hv10)
    cnd (degree == (4 : Int))
      (∃ b7 o7, fP = some ⟨b7, o7, none⟩ ∧ ∃ (xA5 : Option Addr) (xL5 xC5 : Nat), hcell hv b7 (o7 + 3) = some (.slice xA5 xL5 xC5) ∧ cnd (((xL5 : Nat) : Int) == (5 : Int))
        (R (.tuple #[.int .i64 degree, .bool true]) hv)
        (cnd (degree == (3 : Int))
          (∃ b8 o8, fP = some ⟨b8, o8, none⟩ ∧ ∃ (xA6 : Option Addr) (xL6 xC6 : Nat), hcell hv b8 (o8 + 3) = some (.slice xA6 xL6 xC6) ∧ K2 (((xL6 : Nat) : Int) == (6 : Int)) hv)
          (K3 hv)))
      (cnd (degree == (3 : Int))
        (∃ b9 o9, fP = some ⟨b9, o9, none⟩ ∧ ∃ (xA7 : Option Addr) (xL7 xC7 : Nat), hcell hv b9 (o9 + 3) = some (.slice xA7 xL7 xC7) ∧ K2 (((xL7 : Nat) : Int) == (6 : Int)) hv)
        (K3 hv)))
theorem calls207 {h : Heap} {R : Value → Heap → Prop} (fP : Option Addr) (H : S207 fP h R) : CallsH Try.prog 207 #[.pointer fP] h R := by
  have e : S207 fP h R = FX (envX [26] 77) { loops := [(0, ⟨[0, 10, 11], [2, 12], [], []⟩)], joins := [(30, ⟨[0, 10, 11, 12], [2], [], []⟩)], blocks := [], draws := [(11, ⟨25, false⟩)] } Try.f207 (Try.f207.body.getD .skip) [.pointer fP] h R := by kernel_rfl
  exact calls_of_FX (envX_ok _ _) Try.func207 (by kernel_rfl) (by kernel_rfl) (by kernel_rfl) (e ▸ H)
/-- (*tracery/kura.form).branches -/
def Ok207 (nV : Int) (edgesV : List (Int × Int)) (outV : List (List Int)) (branchV : List Int) (pathsV : List (List Int)) (kindV : Int) (R : Int → List Int → Int → Int → Bool → Prop) : Prop :=
  ∀ (h : Heap) (fB : Nat) (edgesVA : Option Addr) (edgesVL edgesVC : Nat) (outVA : Option Addr) (outVL outVC : Nat) (outH : List RowH) (branchVA : Option Addr) (branchVL branchVC : Nat) (pathsVA : Option Addr) (pathsVL pathsVC : Nat) (pathsH : List RowH), Hp h [Ck.ob fB 190 [.int .i64 nV, .slice edgesVA edgesVL edgesVC, .slice outVA outVL outVC, .slice branchVA branchVL branchVC, .slice pathsVA pathsVL pathsVC, .int .i64 kindV], Ck.vw eP edgesVA edgesVL edgesVC edgesV, Ck.vrows eI outVA outVL outVC outH outV, Ck.sl eI 3 branchVA branchVL branchVC branchV, Ck.vrows eI pathsVA pathsVL pathsVC pathsH pathsV] → CallsH Try.prog 207 #[.pointer (some ⟨fB, 0, none⟩)] h fun v h' => ∃ (branchVA2 : Option Addr) (branchVL2 branchVC2 : Nat) (branchV1 : List Int) (nV2 : Int) (kindV2 : Int) (raV : Int) (rbV : Bool), Sy h (owns [Ck.ob fB 190 [.int .i64 nV, .slice edgesVA edgesVL edgesVC, .slice outVA outVL outVC, .slice branchVA branchVL branchVC, .slice pathsVA pathsVL pathsVC, .int .i64 kindV], Ck.sl eI 3 branchVA branchVL branchVC branchV]) h' [Ck.ob fB 190 [.int .i64 nV2, .slice edgesVA edgesVL edgesVC, .slice outVA outVL outVC, .slice branchVA2 branchVL2 branchVC2, .slice pathsVA pathsVL pathsVC, .int .i64 kindV2], Ck.sl eI 3 branchVA2 branchVL2 branchVC2 branchV1] ∧ v = .tuple #[.int .i64 raV, .bool rbV] ∧ R nV2 branchV1 kindV2 raV rbV
theorem Ok207.mono {nV edgesV outV branchV pathsV kindV} {R R' : Int → List Int → Int → Int → Bool → Prop} (H : Ok207 nV edgesV outV branchV pathsV kindV R) (kz : ∀ nV2 branchV1 kindV2 raV rbV, R nV2 branchV1 kindV2 raV rbV → R' nV2 branchV1 kindV2 raV rbV) : Ok207 nV edgesV outV branchV pathsV kindV R' :=
  fun h fB edgesVA edgesVL edgesVC outVA outVL outVC outH branchVA branchVL branchVC pathsVA pathsVL pathsVC pathsH hp => (H h fB edgesVA edgesVL edgesVC outVA outVL outVC outH branchVA branchVL branchVC pathsVA pathsVL pathsVC pathsH hp).mono fun _ _ ⟨branchVA2, branchVL2, branchVC2, branchV1, nV2, kindV2, raV, rbV, P, e, q⟩ => ⟨branchVA2, branchVL2, branchVC2, branchV1, nV2, kindV2, raV, rbV, P, e, kz _ _ _ _ _ q⟩
def T207 (nV : Int) (edgesV : List (Int × Int)) (outV : List (List Int)) (branchV : List Int) (pathsV : List (List Int)) (kindV : Int) (R : Int → List Int → Int → Int → Bool → Prop) : Prop :=
  ∃ (Iv : Int → Int → List Int → Prop) (m : Int → Int → List Int → Nat), Iv 0 0 branchV ∧
  ∀ degree : Int, ∀ x : Int, ∀ branchV_2 : List Int, Iv degree x branchV_2 →
  cnd (decide (x < ((outV.length : Nat) : Int)))
    (∃ Jv_2 : Int → List Int → Prop,
    ( 0 ≤ x ∧ x < ((outV.length : Nat) : Int) ∧ ∀ x_2 : List Int, outV[(Int.toNat x)]? = some x_2 → cnd (((x_2.length : Nat) : Int) == (0 : Int))
       (Jv_2 degree branchV_2)
       (∃ Jv : Int → List Int → Prop,
       ( cnd (((x_2.length : Nat) : Int) == (2 : Int))
          (Jv degree branchV_2)
          (cnd (decide (((x_2.length : Nat) : Int) > (4 : Int)))
            (R nV branchV_2 kindV 0 false)
            (cnd (((x_2.length : Nat) : Int) == (1 : Int))
              (R nV branchV_2 kindV 0 false)
              (cnd (degree != (0 : Int))
                (cnd (((x_2.length : Nat) : Int) != degree)
                  (R nV branchV_2 kindV 0 false)
                  ((branchV_2.length + 1) < 1000000000000 ∧ Jv ((x_2.length : Nat) : Int) (branchV_2 ++ [x])))
                ((branchV_2.length + 1) < 1000000000000 ∧ Jv ((x_2.length : Nat) : Int) (branchV_2 ++ [x])))))) ∧
       ∀ degree2 : Int, ∀ branchV_4 : List Int, Jv degree2 branchV_4 →
       Jv_2 degree2 branchV_4)) ∧
    ∀ degree3 : Int, ∀ branchV_3 : List Int, Jv_2 degree3 branchV_3 →
    Iv degree3 (IntKind.i64.wrap (x + (1 : Int))) branchV_3 ∧ m degree3 (IntKind.i64.wrap (x + (1 : Int))) branchV_3 < m degree x branchV_2)
    (∃ Jv_3 : Prop,
    ( ∃ Jv_4 : Bool → Prop,
     ( cnd (degree == (4 : Int))
        (cnd (((branchV_2.length : Nat) : Int) == (5 : Int))
          (R nV branchV_2 kindV degree true)
          (cnd (degree == (3 : Int))
            (Jv_4 (((branchV_2.length : Nat) : Int) == (6 : Int)))
            (Jv_3)))
        (cnd (degree == (3 : Int))
          (Jv_4 (((branchV_2.length : Nat) : Int) == (6 : Int)))
          (Jv_3))) ∧
     ∀ ok : Bool, Jv_4 ok →
     R nV branchV_2 kindV degree ok) ∧
    (Jv_3 →
    R nV branchV_2 kindV degree false))
theorem ok207 {nV edgesV outV branchV pathsV kindV} {R : Int → List Int → Int → Int → Bool → Prop} (T : T207 nV edgesV outV branchV pathsV kindV R) : Ok207 nV edgesV outV branchV pathsV kindV R := by
  intro h fB edgesVA edgesVL edgesVC outVA outVL outVC outH branchVA branchVL branchVC pathsVA pathsVL pathsVC pathsH H
  have Y : Sy h (owns [Ck.ob fB 190 [.int .i64 nV, .slice edgesVA edgesVL edgesVC, .slice outVA outVL outVC, .slice branchVA branchVL branchVC, .slice pathsVA pathsVL pathsVC, .int .i64 kindV], Ck.sl eI 3 branchVA branchVL branchVC branchV]) h _ := Sy.startM H rfl
  obtain rfl := Y.lenV 1 rfl
  obtain rfl := Y.lenW 2 rfl
  obtain rfl := Y.lenS 3 rfl
  obtain rfl := Y.lenW 4 rfl
  apply calls207
  unfold S207
  unfold T207 at T
  refine ⟨fB, 0, rfl, ?_⟩
  refine ⟨_, _, _, Y.cellO 0 rfl 2 rfl, ?_⟩
  obtain ⟨Iv, m, T0, T1⟩ := T
  obtain ⟨B, hB, YB⟩ := Y.cut [0, 3] [1, 2, 4] rfl
  obtain ⟨F, hF⟩ := Y.fnO (k := 0) [3] rfl
  obtain ⟨JJ, hJJ⟩ : ∃ JJ : Nat → List Value → Heap → Prop, JJ = (fun k lz h' => ∃ (degree : Int) (x : Int) (cA : Option Addr) (cL cC : Nat) (branchV_2 : List Int), lz = [.int .i64 degree, .int .i64 x] ∧ Sy h (owns [Ck.ob fB 190 [.int .i64 nV, .slice edgesVA edgesV.length edgesVC, .slice outVA outV.length outVC, .slice branchVA branchV.length branchVC, .slice pathsVA pathsV.length pathsVC, .int .i64 kindV], Ck.sl eI 3 branchVA branchV.length branchVC branchV]) h' ([F [.slice cA cL cC], Ck.sl eI 3 cA cL cC branchV_2] ++ B) ∧ Iv degree x branchV_2 ∧ m degree x branchV_2 = k) := ⟨_, rfl⟩
  refine ⟨fun lz h' => ∃ k, JJ k lz h', Lm JJ, ?_, ?_⟩
  · subst hJJ hB hF
    exact ⟨_, _, _, _, _, _, _, rfl, YB, T0, rfl⟩
  · clear YB T0 Y
    intro degree x hv hI
    obtain ⟨k, hI, hm⟩ := loopIn hI
    subst hJJ hB hF
    obtain ⟨degree, x, cA, cL, cC, branchV_2, e, Y, T, rfl⟩ := hI
    cases e
    obtain rfl := Y.lenS 1 rfl
    replace T := T1 degree x branchV_2 T
    have Y : Sy _ _ _ [_, _, _, _, _] := Y
    refine cnd_imp T (fun T => ?_) (fun T => ?_)
    · obtain ⟨Jv_2, T0, T1⟩ := T
      obtain ⟨B_2, hB_2, _⟩ := Y.cut [] [2, 3, 4] rfl
      obtain ⟨F_2, hF_2⟩ := Y.fnO (k := 0) [3] rfl
      intro K
      have hK : ∀ (degree3 : Int) (hv9 : Heap), (∃ (cA_2 : Option Addr) (cL_2 cC_2 : Nat) (branchV_3 : List Int), Sy h (owns [Ck.ob fB 190 [.int .i64 nV, .slice edgesVA edgesV.length edgesVC, .slice outVA outV.length outVC, .slice branchVA branchV.length branchVC, .slice pathsVA pathsV.length pathsVC, .int .i64 kindV], Ck.sl eI 3 branchVA branchV.length branchVC branchV]) hv9 ([F_2 [.slice cA_2 cL_2 cC_2], Ck.sl eI 3 cA_2 cL_2 cC_2 branchV_3] ++ B_2) ∧ Jv_2 degree3 branchV_3) → K degree3 hv9 := by
        subst hB_2 hF_2
        clear T0 Y
        rintro degree3 hv9 ⟨cA_2, cL_2, cC_2, branchV_3, Y, T⟩
        obtain rfl := Y.lenS 1 rfl
        replace T := T1 degree3 branchV_3 T
        have Y : Sy _ _ _ [_, _, _, _, _] := Y
        unfold K
        exact loopBack hm ⟨_, _, _, _, _, _, rfl, Y.pick [0, 1, 2, 3, 4] rfl, T.1, rfl⟩ T.2
      subst hB_2 hF_2
      replace T := T0
      clear T0 T1
      obtain ⟨q, q_2, T⟩ := T
      obtain ⟨b_2, o_2, hb, hr_2, x_2, hx, r, hr⟩ := Y.atW 3 rfl q q_2
      refine ⟨b_2, o_2, hb, q, q_2, ?_⟩
      replace T := T x_2 hx
      refine ⟨_, _, _, Y.cellWR 3 rfl hb hr hx, ?_⟩
      refine cnd_imp T (fun T => ?_) (fun T => ?_)
      · exact hK _ _ ⟨_, _, _, _, Y.pick [0, 1, 2, 3, 4] rfl, T⟩
      · obtain ⟨Jv, T0, T1⟩ := T
        obtain ⟨B_3, hB_3, _⟩ := Y.cut [] [2, 3, 4] rfl
        obtain ⟨F_3, hF_3⟩ := Y.fnO (k := 0) [3] rfl
        refine ⟨fun lz h' => ∃ (degree2 : Int) (cA_3 : Option Addr) (cL_3 cC_3 : Nat) (branchV_4 : List Int), lz = [.int .i64 degree2] ∧ Sy h (owns [Ck.ob fB 190 [.int .i64 nV, .slice edgesVA edgesV.length edgesVC, .slice outVA outV.length outVC, .slice branchVA branchV.length branchVC, .slice pathsVA pathsV.length pathsVC, .int .i64 kindV], Ck.sl eI 3 branchVA branchV.length branchVC branchV]) h' ([F_3 [.slice cA_3 cL_3 cC_3], Ck.sl eI 3 cA_3 cL_3 cC_3 branchV_4] ++ B_3) ∧ Jv degree2 branchV_4, ?_, ?_⟩
        · subst hB_3 hF_3
          replace T := T0
          clear T0 T1
          refine cnd_imp T (fun T => ?_) (fun T => ?_)
          · exact ⟨_, _, _, _, _, rfl, Y.pick [0, 1, 2, 3, 4] rfl, T⟩
          · refine cnd_imp T (fun T => ?_) (fun T => ?_)
            · exact ⟨_, _, _, _, _, _, _, _, Y.pick [0, 1] rfl, rfl, T⟩
            · refine cnd_imp T (fun T => ?_) (fun T => ?_)
              · exact ⟨_, _, _, _, _, _, _, _, Y.pick [0, 1] rfl, rfl, T⟩
              · refine cnd_imp T (fun T => ?_) (fun T => ?_)
                · refine cnd_imp T (fun T => ?_) (fun T => ?_)
                  · exact ⟨_, _, _, _, _, _, _, _, Y.pick [0, 1] rfl, rfl, T⟩
                  · refine ⟨fB, 0, rfl, ?_⟩
                    refine ⟨_, _, _, Y.cellO 0 rfl 3 rfl, ?_⟩
                    intro hv2
                    have Y : Sy _ _ hv2 [_, _, _, _, _, _] := Y.junk _
                    clear_value hv2
                    obtain ⟨q_3, T⟩ := T
                    refine ⟨_, Y.ownS 1 rfl, (allc (Y.nJ 1 5 rfl rfl rfl) alln), by first | exact appB q_3 (by decide) | omega, by first | exact appM q_3 | (simp [maxLen]; omega), ?_⟩
                    intro sA sC hv3 ow fA gA gB
                    have Y : Sy _ _ hv3 [_, _, _, _, _, _] := Y.appS 1 rfl ([x] : List Int) ow fA gA rfl rfl
                    refine ⟨fB, 0, rfl, ?_⟩
                    refine ⟨(Y.neJ 0 5 rfl rfl rfl (by simp [Ck.ob])), ⟨_, Y.cellO 0 rfl 3 rfl⟩, Y.freeO 0 rfl _, ?_⟩
                    intro hv4
                    have Y : Sy _ _ hv4 [_, _, _, _, _, _] := (Y.stO 0 rfl 3 _)
                    clear_value hv4
                    exact ⟨_, _, _, _, _, rfl, Y.pick [0, 1, 2, 3, 4] rfl, T⟩
                · refine ⟨fB, 0, rfl, ?_⟩
                  refine ⟨_, _, _, Y.cellO 0 rfl 3 rfl, ?_⟩
                  intro hv5
                  have Y : Sy _ _ hv5 [_, _, _, _, _, _] := Y.junk _
                  clear_value hv5
                  obtain ⟨q_4, T⟩ := T
                  refine ⟨_, Y.ownS 1 rfl, (allc (Y.nJ 1 5 rfl rfl rfl) alln), by first | exact appB q_4 (by decide) | omega, by first | exact appM q_4 | (simp [maxLen]; omega), ?_⟩
                  intro sA2 sC2 hv6 ow fA gA gB
                  have Y : Sy _ _ hv6 [_, _, _, _, _, _] := Y.appS 1 rfl ([x] : List Int) ow fA gA rfl rfl
                  refine ⟨fB, 0, rfl, ?_⟩
                  refine ⟨(Y.neJ 0 5 rfl rfl rfl (by simp [Ck.ob])), ⟨_, Y.cellO 0 rfl 3 rfl⟩, Y.freeO 0 rfl _, ?_⟩
                  intro hv7
                  have Y : Sy _ _ hv7 [_, _, _, _, _, _] := (Y.stO 0 rfl 3 _)
                  clear_value hv7
                  exact ⟨_, _, _, _, _, rfl, Y.pick [0, 1, 2, 3, 4] rfl, T⟩
        · subst hB_3 hF_3
          clear T0 Y
          rintro degree2 hv8 ⟨degree2, cA_3, cL_3, cC_3, branchV_4, e, Y, T⟩
          cases e
          obtain rfl := Y.lenS 1 rfl
          replace T := T1 degree2 branchV_4 T
          have Y : Sy _ _ _ [_, _, _, _, _] := Y
          exact hK _ _ ⟨_, _, _, _, Y.pick [0, 1, 2, 3, 4] rfl, T⟩
    · obtain ⟨Jv_3, T0, T1⟩ := T
      obtain ⟨B_4, hB_4, _⟩ := Y.cut [] [0, 1, 2, 3, 4] rfl
      intro K3
      have hK3 : ∀  (hv11 : Heap), (Sy h (owns [Ck.ob fB 190 [.int .i64 nV, .slice edgesVA edgesV.length edgesVC, .slice outVA outV.length outVC, .slice branchVA branchV.length branchVC, .slice pathsVA pathsV.length pathsVC, .int .i64 kindV], Ck.sl eI 3 branchVA branchV.length branchVC branchV]) hv11 ([] ++ B_4) ∧ Jv_3) → K3 hv11 := by
        subst hB_4
        clear T0 Y
        rintro hv11 ⟨Y, T⟩
        replace T := T1 T
        have Y : Sy _ _ _ [_, _, _, _, _] := Y
        unfold K3
        exact ⟨_, _, _, _, _, _, _, _, Y.pick [0, 1] rfl, rfl, T⟩
      subst hB_4
      replace T := T0
      clear T0 T1
      obtain ⟨Jv_4, T0, T1⟩ := T
      obtain ⟨B_5, hB_5, _⟩ := Y.cut [] [0, 1, 2, 3, 4] rfl
      intro K2
      have hK2 : ∀ (ok : Bool) (hv10 : Heap), (Sy h (owns [Ck.ob fB 190 [.int .i64 nV, .slice edgesVA edgesV.length edgesVC, .slice outVA outV.length outVC, .slice branchVA branchV.length branchVC, .slice pathsVA pathsV.length pathsVC, .int .i64 kindV], Ck.sl eI 3 branchVA branchV.length branchVC branchV]) hv10 ([] ++ B_5) ∧ Jv_4 ok) → K2 ok hv10 := by
        subst hB_5
        clear T0 Y
        rintro ok hv10 ⟨Y, T⟩
        replace T := T1 ok T
        have Y : Sy _ _ _ [_, _, _, _, _] := Y
        unfold K2
        exact ⟨_, _, _, _, _, _, _, _, Y.pick [0, 1] rfl, rfl, T⟩
      subst hB_5
      replace T := T0
      clear T0 T1
      have Y0 := Y
      have F : Fr [] hv hv := Fr.refl _ _
      refine cnd_imp T (fun T => ?_) (fun T => ?_)
      · refine ⟨fB, 0, rfl, ?_⟩
        refine ⟨_, _, _, Y0.cellO 0 rfl 3 rfl, ?_⟩
        refine cnd_imp T (fun T => ?_) (fun T => ?_)
        · exact ⟨_, _, _, _, _, _, _, _, Y.pick [0, 1] rfl, rfl, T⟩
        · refine cnd_imp T (fun T => ?_) (fun T => ?_)
          · refine ⟨fB, 0, rfl, ?_⟩
            refine ⟨_, _, _, Y0.cellO 0 rfl 3 rfl, ?_⟩
            exact hK2 _ _ ⟨Y.pick [0, 1, 2, 3, 4] rfl, T⟩
          · exact hK3 _ ⟨Y.pick [0, 1, 2, 3, 4] rfl, T⟩
      · refine cnd_imp T (fun T => ?_) (fun T => ?_)
        · refine ⟨fB, 0, rfl, ?_⟩
          refine ⟨_, _, _, Y0.cellO 0 rfl 3 rfl, ?_⟩
          exact hK2 _ _ ⟨Y.pick [0, 1, 2, 3, 4] rfl, T⟩
        · exact hK3 _ ⟨Y.pick [0, 1, 2, 3, 4] rfl, T⟩
/-- (*tracery/kura.form).follow -/
def S208 (fP : Option Addr) (hv : Int) (h : Heap) (R : Value → Heap → Prop) : Prop :=
  let hv2 : Heap := h.push (.cells #[.int .i64 hv] 3)
  callX Try.prog 159 #[.pointer fP, .int .i64 hv] hv2 [] fun v hv3 =>
  ∃ r : Int, v = .int .i64 r ∧
  ∃ (Iv : List Value → Heap → Prop) (m : List Value → Heap → Nat), Iv [.int .i64 hv, .slice (some (⟨h.size, 0, none⟩ : Addr)) 1 1, .int .i64 r] hv3 ∧ -- loop 0: ['h', 'path', 'v']
  ∀ hv4 : Int, ∀ (pathA : Option Addr) (pathL pathC : Nat), ∀ v2 : Int, ∀ hv5, Iv [.int .i64 hv4, .slice pathA pathL pathC, .int .i64 v2] hv5 →
  ∃ b o, fP = some ⟨b, o, none⟩ ∧ ∃ (xA : Option Addr) (xL xC : Nat), hcell hv5 b (o + 2) = some (.slice xA xL xC) ∧ ∃ b2 o2, xA = some ⟨b2, o2, none⟩ ∧ 0 ≤ v2 ∧ v2 < (xL : Nat) ∧ ∃ (xA2 : Option Addr) (xL2 xC2 : Nat), hcell hv5 b2 (o2 + (Int.toNat v2) * 1) = some (.slice xA2 xL2 xC2) ∧ cnd (((xL2 : Nat) : Int) == (2 : Int))
    (∃ b3 o3, fP = some ⟨b3, o3, none⟩ ∧ ∃ (xA3 : Option Addr) (xL3 xC3 : Nat), hcell hv5 b3 (o3 + 2) = some (.slice xA3 xL3 xC3) ∧ ∃ b4 o4, xA3 = some ⟨b4, o4, none⟩ ∧ 0 ≤ v2 ∧ v2 < (xL3 : Nat) ∧ ∃ (xA4 : Option Addr) (xL4 xC4 : Nat), hcell hv5 b4 (o4 + (Int.toNat v2) * 1) = some (.slice xA4 xL4 xC4) ∧ ∃ b5 o5, xA4 = some ⟨b5, o5, none⟩ ∧ 0 ≤ (0 : Int) ∧ (0 : Int) < (xL4 : Nat) ∧ ∃ x : Int, hcell hv5 b5 (o5 + (Int.toNat (0 : Int)) * 1) = some (.int .i64 x) ∧ ∃ Jv : List Value → Heap → Prop, -- join 36 ['next']
    ( cnd (x == (bits .xor .i64 hv4 (1 : Int)))
       (∃ b6 o6, fP = some ⟨b6, o6, none⟩ ∧ ∃ (xA5 : Option Addr) (xL5 xC5 : Nat), hcell hv5 b6 (o6 + 2) = some (.slice xA5 xL5 xC5) ∧ ∃ b7 o7, xA5 = some ⟨b7, o7, none⟩ ∧ 0 ≤ v2 ∧ v2 < (xL5 : Nat) ∧ ∃ (xA6 : Option Addr) (xL6 xC6 : Nat), hcell hv5 b7 (o7 + (Int.toNat v2) * 1) = some (.slice xA6 xL6 xC6) ∧ ∃ b8 o8, xA6 = some ⟨b8, o8, none⟩ ∧ 0 ≤ (1 : Int) ∧ (1 : Int) < (xL6 : Nat) ∧ ∃ x2 : Int, hcell hv5 b8 (o8 + (Int.toNat (1 : Int)) * 1) = some (.int .i64 x2) ∧ Jv [.int .i64 x2] hv5)
       (Jv [.int .i64 x] hv5)) ∧
    ∀ nextv : Int, ∀ hv6, Jv [.int .i64 nextv] hv6 →
    let hv7 : Heap := hv6.push (.cells #[.int .i64 nextv] 3)
    ∃ old, Ownd hv7 3 1 pathA pathL pathC old ∧ (∀ b ∈ ([hv6.size] : List Nat), b ∉ blkOf pathA) ∧ (pathL + 1) * 8 ≤ 140737488355328 ∧ (pathL + 1) ≤ maxLen ∧
    ∀ sA sC hv8, Ownd hv8 3 1 sA (pathL + 1) sC (old ++ [.int .i64 nextv]) → Fr (blkOf pathA) hv7 hv8 → ((sA = pathA ∧ sC = pathC) ∨ ∃ g, sA = some ⟨g, 0, none⟩ ∧ hv7.size ≤ g) → (pathC < (pathL + 1) → Fr [] hv7 hv8) →
    callX Try.prog 159 #[.pointer fP, .int .i64 nextv] hv8 [hv6.size] fun v3 hv9 =>
    ∃ r2 : Int, v3 = .int .i64 r2 ∧
    Iv [.int .i64 nextv, .slice sA (pathL + 1) sC, .int .i64 r2] hv9 ∧ m [.int .i64 nextv, .slice sA (pathL + 1) sC, .int .i64 r2] hv9 < m [.int .i64 hv4, .slice pathA pathL pathC, .int .i64 v2] hv5)
    (∃ b9 o9, fP = some ⟨b9, o9, none⟩ ∧ ∃ (xA7 : Option Addr) (xL7 xC7 : Nat), hcell hv5 b9 (o9 + 4) = some (.slice xA7 xL7 xC7) ∧ let hv10 : Heap := hv5.push (.cells #[.slice pathA pathL pathC] 40)
    ∃ old2, Ownd hv10 40 1 xA7 xL7 xC7 old2 ∧ (∀ b ∈ ([hv5.size] : List Nat), b ∉ blkOf xA7) ∧ (xL7 + 1) * 24 ≤ 140737488355328 ∧ (xL7 + 1) ≤ maxLen ∧
    ∀ sA2 sC2 hv11, Ownd hv11 40 1 sA2 (xL7 + 1) sC2 (old2 ++ [.slice pathA pathL pathC]) → Fr (blkOf xA7) hv10 hv11 → ((sA2 = xA7 ∧ sC2 = xC7) ∨ ∃ g, sA2 = some ⟨g, 0, none⟩ ∧ hv10.size ≤ g) → (xC7 < (xL7 + 1) → Fr [] hv10 hv11) →
    ∃ b10 o10, fP = some ⟨b10, o10, none⟩ ∧ b10 ≠ hv5.size ∧ (∃ u, hcell hv11 b10 (o10 + 4) = some u) ∧ hfree hv11 b10 (o10 + 4) = true ∧ let hv12 : Heap := hset hv11 b10 (o10 + 4) (.slice sA2 (xL7 + 1) sC2)
    R (.tuple #[]) hv12)
theorem calls208 {h : Heap} {R : Value → Heap → Prop} (fP : Option Addr) (hv : Int) (H : S208 fP hv h R) : CallsH Try.prog 208 #[.pointer fP, .int .i64 hv] h R := by
  have e : S208 fP hv h R = FX (envX [49, 57] 61) { loops := [(0, ⟨[0], [1, 4, 5], [], []⟩)], joins := [(36, ⟨[0, 4], [6], [], []⟩)], blocks := [], draws := [] } Try.f208 (Try.f208.body.getD .skip) [.pointer fP, .int .i64 hv] h R := by kernel_rfl
  exact calls_of_FX (envX_ok _ _) Try.func208 (by kernel_rfl) (by kernel_rfl) (by kernel_rfl) (e ▸ H)
/-- (*tracery/kura.form).follow -/
def Ok208 (nV : Int) (edgesV : List (Int × Int)) (outV : List (List Int)) (branchV : List Int) (pathsV : List (List Int)) (kindV : Int) (hv : Int) (R : Int → List (List Int) → Int → Prop) : Prop :=
  ∀ (h : Heap) (fB : Nat) (edgesVA : Option Addr) (edgesVL edgesVC : Nat) (outVA : Option Addr) (outVL outVC : Nat) (outH : List RowH) (branchVA : Option Addr) (branchVL branchVC : Nat) (pathsVA : Option Addr) (pathsVL pathsVC : Nat) (pathsH : List RowH), Hp h [Ck.ob fB 190 [.int .i64 nV, .slice edgesVA edgesVL edgesVC, .slice outVA outVL outVC, .slice branchVA branchVL branchVC, .slice pathsVA pathsVL pathsVC, .int .i64 kindV], Ck.vw eP edgesVA edgesVL edgesVC edgesV, Ck.vrows eI outVA outVL outVC outH outV, Ck.vw eI branchVA branchVL branchVC branchV, Ck.rows eI 40 3 pathsVA pathsVL pathsVC pathsH pathsV] → CallsH Try.prog 208 #[.pointer (some ⟨fB, 0, none⟩), .int .i64 hv] h fun v h' => ∃ (pathsVA2 : Option Addr) (pathsVL2 pathsVC2 : Nat) (pathsH2 : List RowH) (pathsV1 : List (List Int)) (nV2 : Int) (kindV2 : Int), Sy h (owns [Ck.ob fB 190 [.int .i64 nV, .slice edgesVA edgesVL edgesVC, .slice outVA outVL outVC, .slice branchVA branchVL branchVC, .slice pathsVA pathsVL pathsVC, .int .i64 kindV], Ck.rows eI 40 3 pathsVA pathsVL pathsVC pathsH pathsV]) h' [Ck.ob fB 190 [.int .i64 nV2, .slice edgesVA edgesVL edgesVC, .slice outVA outVL outVC, .slice branchVA branchVL branchVC, .slice pathsVA2 pathsVL2 pathsVC2, .int .i64 kindV2], Ck.rows eI 40 3 pathsVA2 pathsVL2 pathsVC2 pathsH2 pathsV1] ∧ v = .tuple #[] ∧ R nV2 pathsV1 kindV2
theorem Ok208.mono {nV edgesV outV branchV pathsV kindV hv} {R R' : Int → List (List Int) → Int → Prop} (H : Ok208 nV edgesV outV branchV pathsV kindV hv R) (kz : ∀ nV2 pathsV1 kindV2, R nV2 pathsV1 kindV2 → R' nV2 pathsV1 kindV2) : Ok208 nV edgesV outV branchV pathsV kindV hv R' :=
  fun h fB edgesVA edgesVL edgesVC outVA outVL outVC outH branchVA branchVL branchVC pathsVA pathsVL pathsVC pathsH hp => (H h fB edgesVA edgesVL edgesVC outVA outVL outVC outH branchVA branchVL branchVC pathsVA pathsVL pathsVC pathsH hp).mono fun _ _ ⟨pathsVA2, pathsVL2, pathsVC2, pathsH2, pathsV1, nV2, kindV2, P, e, q⟩ => ⟨pathsVA2, pathsVL2, pathsVC2, pathsH2, pathsV1, nV2, kindV2, P, e, kz _ _ _ q⟩
def T208 (nV : Int) (edgesV : List (Int × Int)) (outV : List (List Int)) (branchV : List Int) (pathsV : List (List Int)) (kindV : Int) (hv : Int) (R : Int → List (List Int) → Int → Prop) : Prop :=
  Ok159 nV edgesV outV branchV pathsV kindV hv (fun r =>
  ∃ (Iv : Int → List Int → Int → Prop) (m : Int → List Int → Int → Nat), Iv hv ([hv] : List Int) r ∧
  ∀ hv4 : Int, ∀ path : List Int, ∀ v2 : Int, Iv hv4 path v2 →
  0 ≤ v2 ∧ v2 < ((outV.length : Nat) : Int) ∧ ∀ x_2 : List Int, outV[(Int.toNat v2)]? = some x_2 → cnd (((x_2.length : Nat) : Int) == (2 : Int))
    (0 ≤ (0 : Int) ∧ (0 : Int) < ((x_2.length : Nat) : Int) ∧ ∀ x_3 : Int, x_2[(Int.toNat (0 : Int))]? = some x_3 → ∃ Jv : Int → Prop,
    ( cnd (x_3 == (bits .xor .i64 hv4 (1 : Int)))
       (0 ≤ (1 : Int) ∧ (1 : Int) < ((x_2.length : Nat) : Int) ∧ ∀ x_4 : Int, x_2[(Int.toNat (1 : Int))]? = some x_4 → Jv x_4)
       (Jv x_3)) ∧
    ∀ nextv : Int, Jv nextv →
    (path.length + 1) < 1000000000000 ∧ Ok159 nV edgesV outV branchV pathsV kindV nextv (fun r2 =>
    Iv nextv (path ++ [nextv]) r2 ∧ m nextv (path ++ [nextv]) r2 < m hv4 path v2))
    ((pathsV.length + 1) < 1000000000000 ∧ R nV (pathsV ++ [path]) kindV))
theorem ok208 {nV edgesV outV branchV pathsV kindV hv} {R : Int → List (List Int) → Int → Prop} (T : T208 nV edgesV outV branchV pathsV kindV hv R) : Ok208 nV edgesV outV branchV pathsV kindV hv R := by
  intro h fB edgesVA edgesVL edgesVC outVA outVL outVC outH branchVA branchVL branchVC pathsVA pathsVL pathsVC pathsH H
  have Y : Sy h (owns [Ck.ob fB 190 [.int .i64 nV, .slice edgesVA edgesVL edgesVC, .slice outVA outVL outVC, .slice branchVA branchVL branchVC, .slice pathsVA pathsVL pathsVC, .int .i64 kindV], Ck.rows eI 40 3 pathsVA pathsVL pathsVC pathsH pathsV]) h _ := Sy.startM H rfl
  obtain rfl := Y.lenV 1 rfl
  obtain rfl := Y.lenW 2 rfl
  obtain rfl := Y.lenV 3 rfl
  obtain rfl := Y.lenR 4 rfl
  apply calls208
  unfold S208
  unfold T208 at T
  intro hv2
  have Y : Sy _ _ hv2 [_, _, _, _, _, _] := Y.litS (E := eI) (ty := 3) ([hv] : List Int) rfl (by simp [maxLen])
  clear_value hv2
  refine callX_sy (T _ _ _ _ _ _ _ _ _ _ _ _ _ _ _ _ _ (((Y.turn 0 rfl To.obvob).turn 4 rfl To.rowsv).pick [0, 1, 2, 3, 4] rfl).hp) (fun _ _ ⟨_, p, _⟩ => p.fr) alln ?_
  rintro v hv3 ⟨r, PP, rfl, T⟩
  have Y : Sy _ _ hv3 [_, _, _, _, _, _] := Y.gr PP.fr
  clear PP
  refine ⟨r, rfl, ?_⟩
  obtain ⟨Iv, m, T0, T1⟩ := T
  obtain ⟨B, hB, YB⟩ := Y.cut [5] [0, 1, 2, 3, 4] rfl
  obtain ⟨JJ, hJJ⟩ : ∃ JJ : Nat → List Value → Heap → Prop, JJ = (fun k lz h' => ∃ (hv4 : Int) (pathA : Option Addr) (pathL pathC : Nat) (path : List Int) (v2 : Int), lz = [.int .i64 hv4, .slice pathA pathL pathC, .int .i64 v2] ∧ Sy h (owns [Ck.ob fB 190 [.int .i64 nV, .slice edgesVA edgesV.length edgesVC, .slice outVA outV.length outVC, .slice branchVA branchV.length branchVC, .slice pathsVA pathsV.length pathsVC, .int .i64 kindV], Ck.rows eI 40 3 pathsVA pathsV.length pathsVC pathsH pathsV]) h' ([Ck.sl eI 3 pathA pathL pathC path] ++ B) ∧ Iv hv4 path v2 ∧ m hv4 path v2 = k) := ⟨_, rfl⟩
  refine ⟨fun lz h' => ∃ k, JJ k lz h', Lm JJ, ?_, ?_⟩
  · subst hJJ hB
    exact ⟨_, _, _, _, _, _, _, rfl, YB, T0, rfl⟩
  · clear YB T0 Y
    intro hv4 pathA pathL pathC v2 hv5 hI
    obtain ⟨k, hI, hm⟩ := loopIn hI
    subst hJJ hB
    obtain ⟨hv4, pathA, pathL, pathC, path, v2, e, Y, T, rfl⟩ := hI
    cases e
    obtain rfl := Y.lenS 0 rfl
    replace T := T1 hv4 path v2 T
    have Y : Sy _ _ _ [_, _, _, _, _, _] := Y
    refine ⟨fB, 0, rfl, ?_⟩
    refine ⟨_, _, _, Y.cellO 1 rfl 2 rfl, ?_⟩
    obtain ⟨q, q_2, T⟩ := T
    obtain ⟨b_2, o_2, hb, hr_2, x_2, hx, r_2, hr⟩ := Y.atW 3 rfl q q_2
    refine ⟨b_2, o_2, hb, q, q_2, ?_⟩
    replace T := T x_2 hx
    refine ⟨_, _, _, Y.cellWR 3 rfl hb hr hx, ?_⟩
    refine cnd_imp T (fun T => ?_) (fun T => ?_)
    · refine ⟨fB, 0, rfl, ?_⟩
      refine ⟨_, _, _, Y.cellO 1 rfl 2 rfl, ?_⟩
      refine ⟨b_2, o_2, hb, q, q_2, ?_⟩
      refine ⟨_, _, _, Y.cellWR 3 rfl hb hr hx, ?_⟩
      obtain ⟨q_3, q_4, T⟩ := T
      obtain ⟨b_3, o_3, hb_2, hr_3, x_3, hx_2⟩ := Y.atRowW 3 rfl hr hx q_3 q_4
      refine ⟨b_3, o_3, hb_2, q_3, q_4, ?_⟩
      replace T := T x_3 hx_2
      refine ⟨_, Y.cellRowW 3 rfl hr hx hb_2 (t := 0) hx_2 rfl, ?_⟩
      obtain ⟨Jv, T0, T1⟩ := T
      obtain ⟨B_2, hB_2, _⟩ := Y.cut [] [0, 1, 2, 3, 4, 5] rfl
      refine ⟨fun lz h' => ∃ (nextv : Int), lz = [.int .i64 nextv] ∧ Sy h (owns [Ck.ob fB 190 [.int .i64 nV, .slice edgesVA edgesV.length edgesVC, .slice outVA outV.length outVC, .slice branchVA branchV.length branchVC, .slice pathsVA pathsV.length pathsVC, .int .i64 kindV], Ck.rows eI 40 3 pathsVA pathsV.length pathsVC pathsH pathsV]) h' ([] ++ B_2) ∧ Jv nextv, ?_, ?_⟩
      · subst hB_2
        replace T := T0
        clear T0 T1
        refine cnd_imp T (fun T => ?_) (fun T => ?_)
        · refine ⟨fB, 0, rfl, ?_⟩
          refine ⟨_, _, _, Y.cellO 1 rfl 2 rfl, ?_⟩
          refine ⟨b_2, o_2, hb, q, q_2, ?_⟩
          refine ⟨_, _, _, Y.cellWR 3 rfl hb hr hx, ?_⟩
          obtain ⟨q_5, q_6, T⟩ := T
          obtain ⟨b_4, o_4, hb_3, hr_4, x_4, hx_3⟩ := Y.atRowW 3 rfl hr hx q_5 q_6
          refine ⟨b_4, o_4, hb_3, q_5, q_6, ?_⟩
          replace T := T x_4 hx_3
          refine ⟨_, Y.cellRowW 3 rfl hr hx hb_3 (t := 0) hx_3 rfl, ?_⟩
          exact ⟨_, rfl, Y.pick [0, 1, 2, 3, 4, 5] rfl, T⟩
        · exact ⟨_, rfl, Y.pick [0, 1, 2, 3, 4, 5] rfl, T⟩
      · subst hB_2
        clear T0 Y
        rintro nextv hv6 ⟨nextv, e, Y, T⟩
        cases e
        replace T := T1 nextv T
        have Y : Sy _ _ _ [_, _, _, _, _, _] := Y
        intro hv7
        have Y : Sy _ _ hv7 [_, _, _, _, _, _, _] := Y.junk _
        clear_value hv7
        obtain ⟨q_7, T⟩ := T
        refine ⟨_, Y.ownS 0 rfl, (allc (Y.nJ 0 6 rfl rfl rfl) alln), by first | exact appB q_7 (by decide) | omega, by first | exact appM q_7 | (simp [maxLen]; omega), ?_⟩
        intro sA sC hv8 ow fA gA gB
        have Y : Sy _ _ hv8 [_, _, _, _, _, _, _] := Y.appS 0 rfl ([nextv] : List Int) ow fA gA rfl rfl
        refine callX_sy (T _ _ _ _ _ _ _ _ _ _ _ _ _ _ _ _ _ (((Y.turn 1 rfl To.obvob).turn 5 rfl To.rowsv).pick [1, 2, 3, 4, 5] rfl).hp) (fun _ _ ⟨_, p, _⟩ => p.fr) (allc (fun h => by cases h) alln) ?_
        rintro v3 hv9 ⟨r2, PP, rfl, T⟩
        have Y : Sy _ _ hv9 [_, _, _, _, _, _, _] := Y.gr PP.fr
        clear PP
        refine ⟨r2, rfl, ?_⟩
        exact loopBack hm ⟨_, _, _, _, _, _, rfl, Y.pick [0, 1, 2, 3, 4, 5] rfl, T.1, rfl⟩ T.2
    · refine ⟨fB, 0, rfl, ?_⟩
      refine ⟨_, _, _, Y.cellO 1 rfl 4 rfl, ?_⟩
      intro hv10
      have Y : Sy _ _ hv10 [_, _, _, _, _, _, _] := Y.junk _
      clear_value hv10
      obtain ⟨q_8, T⟩ := T
      refine ⟨_, Y.ownR 5 rfl, (allc (Y.nJR 5 6 rfl rfl rfl) alln), by first | exact appB q_8 (by decide) | omega, by first | exact appM q_8 | (simp [maxLen]; omega), ?_⟩
      intro sA2 sC2 hv11 ow fA gA gB
      have Y : Sy _ _ hv11 [_, _, _, _, _, _, _] := Y.appR 5 0 rfl rfl rfl ow fA gA
      refine ⟨fB, 0, rfl, ?_⟩
      refine ⟨(Y.neJ 1 6 rfl rfl rfl (by simp [Ck.ob])), ⟨_, Y.cellO 1 rfl 4 rfl⟩, Y.freeO 1 rfl _, ?_⟩
      intro hv12
      have Y : Sy _ _ hv12 [_, _, _, _, _, _, _] := (Y.stO 1 rfl 4 _)
      clear_value hv12
      exact ⟨_, _, _, _, _, _, _, Y.pick [1, 5] rfl, rfl, T⟩
/-- (*tracery/kura.form).settle -/
def Ok224 (nV : Int) (edgesV : List (Int × Int)) (outV : List (List Int)) (branchV : List Int) (pathsV : List (List Int)) (kindV : Int) (pairsV : List (Int × Int)) (kind : Int) (R : Int → List (List Int) → Int → Prop) : Prop :=
  ∀ (h : Heap) (fB : Nat) (edgesVA : Option Addr) (edgesVL edgesVC : Nat) (outVA : Option Addr) (outVL outVC : Nat) (outH : List RowH) (branchVA : Option Addr) (branchVL branchVC : Nat) (pathsVA : Option Addr) (pathsVL pathsVC : Nat) (pathsH : List RowH) (pairsA : Option Addr) (pairsL pairsC : Nat), Hp h [Ck.ob fB 190 [.int .i64 nV, .slice edgesVA edgesVL edgesVC, .slice outVA outVL outVC, .slice branchVA branchVL branchVC, .slice pathsVA pathsVL pathsVC, .int .i64 kindV], Ck.vw eP edgesVA edgesVL edgesVC edgesV, Ck.vrows eI outVA outVL outVC outH outV, Ck.vw eI branchVA branchVL branchVC branchV, Ck.rows eI 40 3 pathsVA pathsVL pathsVC pathsH pathsV, Ck.vw eP pairsA pairsL pairsC pairsV] → CallsH Try.prog 224 #[.pointer (some ⟨fB, 0, none⟩), .slice pairsA pairsL pairsC, .int .i64 kind] h fun v h' => ∃ (pathsVA2 : Option Addr) (pathsVL2 pathsVC2 : Nat) (pathsH2 : List RowH) (pathsV1 : List (List Int)) (nV2 : Int) (kindV2 : Int), Sy h (owns [Ck.ob fB 190 [.int .i64 nV, .slice edgesVA edgesVL edgesVC, .slice outVA outVL outVC, .slice branchVA branchVL branchVC, .slice pathsVA pathsVL pathsVC, .int .i64 kindV], Ck.rows eI 40 3 pathsVA pathsVL pathsVC pathsH pathsV]) h' [Ck.ob fB 190 [.int .i64 nV2, .slice edgesVA edgesVL edgesVC, .slice outVA outVL outVC, .slice branchVA branchVL branchVC, .slice pathsVA2 pathsVL2 pathsVC2, .int .i64 kindV2], Ck.rows eI 40 3 pathsVA2 pathsVL2 pathsVC2 pathsH2 pathsV1] ∧ v = .tuple #[] ∧ R nV2 pathsV1 kindV2
theorem Ok224.mono {nV edgesV outV branchV pathsV kindV pairsV kind} {R R' : Int → List (List Int) → Int → Prop} (H : Ok224 nV edgesV outV branchV pathsV kindV pairsV kind R) (kz : ∀ nV2 pathsV1 kindV2, R nV2 pathsV1 kindV2 → R' nV2 pathsV1 kindV2) : Ok224 nV edgesV outV branchV pathsV kindV pairsV kind R' :=
  fun h fB edgesVA edgesVL edgesVC outVA outVL outVC outH branchVA branchVL branchVC pathsVA pathsVL pathsVC pathsH pairsA pairsL pairsC hp => (H h fB edgesVA edgesVL edgesVC outVA outVL outVC outH branchVA branchVL branchVC pathsVA pathsVL pathsVC pathsH pairsA pairsL pairsC hp).mono fun _ _ ⟨pathsVA2, pathsVL2, pathsVC2, pathsH2, pathsV1, nV2, kindV2, P, e, q⟩ => ⟨pathsVA2, pathsVL2, pathsVC2, pathsH2, pathsV1, nV2, kindV2, P, e, kz _ _ _ q⟩
/-- (*tracery/kura.form).complete -/
def S209 (fP : Option Addr) (h : Heap) (R : Value → Heap → Prop) : Prop :=
  ∃ b o, fP = some ⟨b, o, none⟩ ∧ ∃ (xA : Option Addr) (xL xC : Nat), hcell h b (o + 3) = some (.slice xA xL xC) ∧ ∃ (Iv : List Value → Heap → Prop) (m : List Value → Heap → Nat), Iv [.slice none 0 0, .int .i64 0] h ∧ -- loop 0: ['pairs', '12']
  ∀ (pairsA : Option Addr) (pairsL pairsC : Nat), ∀ x : Int, ∀ hv, Iv [.slice pairsA pairsL pairsC, .int .i64 x] hv →
  cnd (decide (x < ((xL : Nat) : Int)))
    (∃ b2 o2, xA = some ⟨b2, o2, none⟩ ∧ 0 ≤ x ∧ x < (xL : Nat) ∧ ∃ x2 : Int, hcell hv b2 (o2 + (Int.toNat x) * 1) = some (.int .i64 x2) ∧ ∃ b3 o3, fP = some ⟨b3, o3, none⟩ ∧ ∃ (xA2 : Option Addr) (xL2 xC2 : Nat), hcell hv b3 (o3 + 3) = some (.slice xA2 xL2 xC2) ∧ 0 ≤ (IntKind.i64.wrap (x + (1 : Int))) ∧ (IntKind.i64.wrap (x + (1 : Int))) ≤ (xL2 : Nat) ∧ ∃ (Iv2 : List Value → Heap → Prop) (m2 : List Value → Heap → Nat), Iv2 [.slice pairsA pairsL pairsC, .int .i64 0] hv ∧ -- loop 2: ['pairs', '25']
    ∀ (pairsA2 : Option Addr) (pairsL2 pairsC2 : Nat), ∀ x3 : Int, ∀ hv2, Iv2 [.slice pairsA2 pairsL2 pairsC2, .int .i64 x3] hv2 →
    cnd (decide (x3 < (((xL2 - (Int.toNat (IntKind.i64.wrap (x + (1 : Int))))) : Nat) : Int)))
      (∃ b4 o4, (if xC2 = (Int.toNat (IntKind.i64.wrap (x + (1 : Int)))) then xA2 else Option.map (fun addr => Addr.add addr ((Int.toNat (IntKind.i64.wrap (x + (1 : Int)))) * 1)) xA2) = some ⟨b4, o4, none⟩ ∧ 0 ≤ x3 ∧ x3 < ((xL2 - (Int.toNat (IntKind.i64.wrap (x + (1 : Int))))) : Nat) ∧ ∃ x4 : Int, hcell hv2 b4 (o4 + (Int.toNat x3) * 1) = some (.int .i64 x4) ∧ let hv3 : Heap := hv2.push (.cells #[.int .i64 x2, .int .i64 x4] 35)
      ∃ old, Ownd hv3 35 2 pairsA2 pairsL2 pairsC2 old ∧ (∀ b ∈ ([hv2.size] : List Nat), b ∉ blkOf pairsA2) ∧ (pairsL2 + 1) * 16 ≤ 140737488355328 ∧ (pairsL2 + 1) ≤ maxLen ∧
      ∀ sA sC hv4, Ownd hv4 35 2 sA (pairsL2 + 1) sC (old ++ [.int .i64 x2, .int .i64 x4]) → Fr (blkOf pairsA2) hv3 hv4 → ((sA = pairsA2 ∧ sC = pairsC2) ∨ ∃ g, sA = some ⟨g, 0, none⟩ ∧ hv3.size ≤ g) → (pairsC2 < (pairsL2 + 1) → Fr [] hv3 hv4) →
      Iv2 [.slice sA (pairsL2 + 1) sC, .int .i64 (IntKind.i64.wrap (x3 + (1 : Int)))] hv4 ∧ m2 [.slice sA (pairsL2 + 1) sC, .int .i64 (IntKind.i64.wrap (x3 + (1 : Int)))] hv4 < m2 [.slice pairsA2 pairsL2 pairsC2, .int .i64 x3] hv2)
      (Iv [.slice pairsA2 pairsL2 pairsC2, .int .i64 (IntKind.i64.wrap (x + (1 : Int)))] hv2 ∧ m [.slice pairsA2 pairsL2 pairsC2, .int .i64 (IntKind.i64.wrap (x + (1 : Int)))] hv2 < m [.slice pairsA pairsL pairsC, .int .i64 x] hv))
    (callX Try.prog 224 #[.pointer fP, .slice pairsA pairsL pairsC, .int .i64 5] hv [] fun v hv5 =>
    v = .tuple #[] ∧
    R (.tuple #[]) hv5)
theorem calls209 {h : Heap} {R : Value → Heap → Prop} (fP : Option Addr) (H : S209 fP h R) : CallsH Try.prog 209 #[.pointer fP] h R := by
  have e : S209 fP h R = FX (envX [33] 40) { loops := [(0, ⟨[0, 10, 11], [2, 12], [], []⟩), (2, ⟨[0, 4, 10, 11, 12, 23, 24], [2, 25], [], []⟩)], joins := [], blocks := [], draws := [] } Try.f209 (Try.f209.body.getD .skip) [.pointer fP] h R := by kernel_rfl
  exact calls_of_FX (envX_ok _ _) Try.func209 (by kernel_rfl) (by kernel_rfl) (by kernel_rfl) (e ▸ H)
/-- (*tracery/kura.form).complete -/
def Ok209 (nV : Int) (edgesV : List (Int × Int)) (outV : List (List Int)) (branchV : List Int) (pathsV : List (List Int)) (kindV : Int) (R : Int → List (List Int) → Int → Prop) : Prop :=
  ∀ (h : Heap) (fB : Nat) (edgesVA : Option Addr) (edgesVL edgesVC : Nat) (outVA : Option Addr) (outVL outVC : Nat) (outH : List RowH) (branchVA : Option Addr) (branchVL branchVC : Nat) (pathsVA : Option Addr) (pathsVL pathsVC : Nat) (pathsH : List RowH), Hp h [Ck.ob fB 190 [.int .i64 nV, .slice edgesVA edgesVL edgesVC, .slice outVA outVL outVC, .slice branchVA branchVL branchVC, .slice pathsVA pathsVL pathsVC, .int .i64 kindV], Ck.vw eP edgesVA edgesVL edgesVC edgesV, Ck.vrows eI outVA outVL outVC outH outV, Ck.vw eI branchVA branchVL branchVC branchV, Ck.rows eI 40 3 pathsVA pathsVL pathsVC pathsH pathsV] → CallsH Try.prog 209 #[.pointer (some ⟨fB, 0, none⟩)] h fun v h' => ∃ (pathsVA2 : Option Addr) (pathsVL2 pathsVC2 : Nat) (pathsH2 : List RowH) (pathsV1 : List (List Int)) (nV2 : Int) (kindV2 : Int), Sy h (owns [Ck.ob fB 190 [.int .i64 nV, .slice edgesVA edgesVL edgesVC, .slice outVA outVL outVC, .slice branchVA branchVL branchVC, .slice pathsVA pathsVL pathsVC, .int .i64 kindV], Ck.rows eI 40 3 pathsVA pathsVL pathsVC pathsH pathsV]) h' [Ck.ob fB 190 [.int .i64 nV2, .slice edgesVA edgesVL edgesVC, .slice outVA outVL outVC, .slice branchVA branchVL branchVC, .slice pathsVA2 pathsVL2 pathsVC2, .int .i64 kindV2], Ck.rows eI 40 3 pathsVA2 pathsVL2 pathsVC2 pathsH2 pathsV1] ∧ v = .tuple #[] ∧ R nV2 pathsV1 kindV2
theorem Ok209.mono {nV edgesV outV branchV pathsV kindV} {R R' : Int → List (List Int) → Int → Prop} (H : Ok209 nV edgesV outV branchV pathsV kindV R) (kz : ∀ nV2 pathsV1 kindV2, R nV2 pathsV1 kindV2 → R' nV2 pathsV1 kindV2) : Ok209 nV edgesV outV branchV pathsV kindV R' :=
  fun h fB edgesVA edgesVL edgesVC outVA outVL outVC outH branchVA branchVL branchVC pathsVA pathsVL pathsVC pathsH hp => (H h fB edgesVA edgesVL edgesVC outVA outVL outVC outH branchVA branchVL branchVC pathsVA pathsVL pathsVC pathsH hp).mono fun _ _ ⟨pathsVA2, pathsVL2, pathsVC2, pathsH2, pathsV1, nV2, kindV2, P, e, q⟩ => ⟨pathsVA2, pathsVL2, pathsVC2, pathsH2, pathsV1, nV2, kindV2, P, e, kz _ _ _ q⟩
def T209 (nV : Int) (edgesV : List (Int × Int)) (outV : List (List Int)) (branchV : List Int) (pathsV : List (List Int)) (kindV : Int) (R : Int → List (List Int) → Int → Prop) : Prop :=
  ∃ (Iv : List (Int × Int) → Int → Prop) (m : List (Int × Int) → Int → Nat), Iv ([] : List (Int × Int)) 0 ∧
  ∀ pairs : List (Int × Int), ∀ x : Int, Iv pairs x →
  cnd (decide (x < ((branchV.length : Nat) : Int)))
    (0 ≤ x ∧ x < ((branchV.length : Nat) : Int) ∧ ∀ x_2 : Int, branchV[(Int.toNat x)]? = some x_2 → 0 ≤ (IntKind.i64.wrap (x + (1 : Int))) ∧ (IntKind.i64.wrap (x + (1 : Int))) ≤ ((branchV.length : Nat) : Int) ∧ ∃ (Iv2 : List (Int × Int) → Int → Prop) (m2 : List (Int × Int) → Int → Nat), Iv2 pairs 0 ∧
    ∀ pairs_2 : List (Int × Int), ∀ x3 : Int, Iv2 pairs_2 x3 →
    cnd (decide (x3 < (((branchV.length - (Int.toNat (IntKind.i64.wrap (x + (1 : Int))))) : Nat) : Int)))
      (0 ≤ x3 ∧ x3 < (((branchV.length - (Int.toNat (IntKind.i64.wrap (x + (1 : Int))))) : Nat) : Int) ∧ ∀ x_3 : Int, (branchV.drop (Int.toNat (IntKind.i64.wrap (x + (1 : Int)))))[(Int.toNat x3)]? = some x_3 → (pairs_2.length + 1) < 1000000000000 ∧ Iv2 (pairs_2 ++ [(x_2, x_3)]) (IntKind.i64.wrap (x3 + (1 : Int))) ∧ m2 (pairs_2 ++ [(x_2, x_3)]) (IntKind.i64.wrap (x3 + (1 : Int))) < m2 pairs_2 x3)
      (Iv pairs_2 (IntKind.i64.wrap (x + (1 : Int))) ∧ m pairs_2 (IntKind.i64.wrap (x + (1 : Int))) < m pairs x))
    (Ok224 nV edgesV outV branchV pathsV kindV pairs 5 (fun nV2_2 pathsV1_2 kindV2_2 =>
    R nV2_2 pathsV1_2 kindV2_2))
theorem ok209 {nV edgesV outV branchV pathsV kindV} {R : Int → List (List Int) → Int → Prop} (T : T209 nV edgesV outV branchV pathsV kindV R) : Ok209 nV edgesV outV branchV pathsV kindV R := by
  intro h fB edgesVA edgesVL edgesVC outVA outVL outVC outH branchVA branchVL branchVC pathsVA pathsVL pathsVC pathsH H
  have Y : Sy h (owns [Ck.ob fB 190 [.int .i64 nV, .slice edgesVA edgesVL edgesVC, .slice outVA outVL outVC, .slice branchVA branchVL branchVC, .slice pathsVA pathsVL pathsVC, .int .i64 kindV], Ck.rows eI 40 3 pathsVA pathsVL pathsVC pathsH pathsV]) h _ := Sy.startM H rfl
  obtain rfl := Y.lenV 1 rfl
  obtain rfl := Y.lenW 2 rfl
  obtain rfl := Y.lenV 3 rfl
  obtain rfl := Y.lenR 4 rfl
  apply calls209
  unfold S209
  unfold T209 at T
  refine ⟨fB, 0, rfl, ?_⟩
  refine ⟨_, _, _, Y.cellO 0 rfl 3 rfl, ?_⟩
  have Y : Sy _ _ _ [_, _, _, _, _, _] := Y.nilS eP 35
  obtain ⟨Iv, m, T0, T1⟩ := T
  obtain ⟨B, hB, YB⟩ := Y.cut [5] [0, 1, 2, 3, 4] rfl
  obtain ⟨JJ, hJJ⟩ : ∃ JJ : Nat → List Value → Heap → Prop, JJ = (fun k lz h' => ∃ (pairsA : Option Addr) (pairsL pairsC : Nat) (pairs : List (Int × Int)) (x : Int), lz = [.slice pairsA pairsL pairsC, .int .i64 x] ∧ Sy h (owns [Ck.ob fB 190 [.int .i64 nV, .slice edgesVA edgesV.length edgesVC, .slice outVA outV.length outVC, .slice branchVA branchV.length branchVC, .slice pathsVA pathsV.length pathsVC, .int .i64 kindV], Ck.rows eI 40 3 pathsVA pathsV.length pathsVC pathsH pathsV]) h' ([Ck.sl eP 35 pairsA pairsL pairsC pairs] ++ B) ∧ Iv pairs x ∧ m pairs x = k) := ⟨_, rfl⟩
  refine ⟨fun lz h' => ∃ k, JJ k lz h', Lm JJ, ?_, ?_⟩
  · subst hJJ hB
    exact ⟨_, _, _, _, _, _, rfl, YB, T0, rfl⟩
  · clear YB T0 Y
    intro pairsA pairsL pairsC x hv hI
    obtain ⟨k, hI, hm⟩ := loopIn hI
    subst hJJ hB
    obtain ⟨pairsA, pairsL, pairsC, pairs, x, e, Y, T, rfl⟩ := hI
    cases e
    obtain rfl := Y.lenS 0 rfl
    replace T := T1 pairs x T
    have Y : Sy _ _ _ [_, _, _, _, _, _] := Y
    refine cnd_imp T (fun T => ?_) (fun T => ?_)
    · obtain ⟨q, q_2, T⟩ := T
      obtain ⟨b_2, o_2, hb, hr, x_2, hx⟩ := Y.atV 4 rfl q q_2
      refine ⟨b_2, o_2, hb, q, q_2, ?_⟩
      replace T := T x_2 hx
      refine ⟨_, Y.cellV 4 rfl hb (t := 0) hx rfl, ?_⟩
      refine ⟨fB, 0, rfl, ?_⟩
      refine ⟨_, _, _, Y.cellO 1 rfl 3 rfl, ?_⟩
      obtain ⟨q_3, q_4, T⟩ := T
      refine ⟨q_3, q_4, ?_⟩
      obtain ⟨Iv2, m2, T0, T1⟩ := T
      obtain ⟨B_2, hB_2, YB⟩ := Y.cut [0] [1, 2, 3, 4, 5] rfl
      obtain ⟨JJ_2, hJJ_2⟩ : ∃ JJ_2 : Nat → List Value → Heap → Prop, JJ_2 = (fun k_2 lz h' => ∃ (pairsA2 : Option Addr) (pairsL2 pairsC2 : Nat) (pairs_2 : List (Int × Int)) (x3 : Int), lz = [.slice pairsA2 pairsL2 pairsC2, .int .i64 x3] ∧ Sy h (owns [Ck.ob fB 190 [.int .i64 nV, .slice edgesVA edgesV.length edgesVC, .slice outVA outV.length outVC, .slice branchVA branchV.length branchVC, .slice pathsVA pathsV.length pathsVC, .int .i64 kindV], Ck.rows eI 40 3 pathsVA pathsV.length pathsVC pathsH pathsV]) h' ([Ck.sl eP 35 pairsA2 pairsL2 pairsC2 pairs_2] ++ B_2) ∧ Iv2 pairs_2 x3 ∧ m2 pairs_2 x3 = k_2) := ⟨_, rfl⟩
      refine ⟨fun lz h' => ∃ k_2, JJ_2 k_2 lz h', Lm JJ_2, ?_, ?_⟩
      · subst hJJ_2 hB_2
        exact ⟨_, _, _, _, _, _, rfl, YB, T0, rfl⟩
      · clear YB T0 Y
        intro pairsA2 pairsL2 pairsC2 x3 hv2 hI
        obtain ⟨k_2, hI, hm_2⟩ := loopIn hI
        subst hJJ_2 hB_2
        obtain ⟨pairsA2, pairsL2, pairsC2, pairs_2, x3, e, Y, T, rfl⟩ := hI
        cases e
        obtain rfl := Y.lenS 0 rfl
        replace T := T1 pairs_2 x3 T
        have Y : Sy _ _ _ [_, _, _, _, _, _] := Y
        refine cnd_imp T (fun T => ?_) (fun T => ?_)
        · obtain ⟨q_5, q_6, T⟩ := T
          obtain ⟨b_3, o_3, hb_2, x_3, hx_2, hC⟩ := readsAt ((Y.readsV 4 rfl).dropR (Int.toNat (IntKind.i64.wrap (x + (1 : Int)))) (by omega) (Y.capV 4 rfl).1 (Y.capV 4 rfl).2 (by omega)) q_5 q_6
          refine ⟨b_3, o_3, hb_2, q_5, q_6, ?_⟩
          replace T := T x_3 hx_2
          refine ⟨_, hC 0 _ rfl, ?_⟩
          intro hv3
          have Y : Sy _ _ hv3 [_, _, _, _, _, _, _] := Y.junk _
          clear_value hv3
          obtain ⟨q_7, T⟩ := T
          refine ⟨_, Y.ownS 0 rfl, (allc (Y.nJ 0 6 rfl rfl rfl) alln), by first | exact appB q_7 (by decide) | omega, by first | exact appM q_7 | (simp [maxLen]; omega), ?_⟩
          intro sA sC hv4 ow fA gA gB
          have Y : Sy _ _ hv4 [_, _, _, _, _, _, _] := Y.appS 0 rfl ([(x_2, x_3)] : List (Int × Int)) ow fA gA rfl rfl
          exact loopBack hm_2 ⟨_, _, _, _, _, rfl, Y.pick [0, 1, 2, 3, 4, 5] rfl, T.1, rfl⟩ T.2
        · exact loopBack hm ⟨_, _, _, _, _, rfl, Y.pick [0, 1, 2, 3, 4, 5] rfl, T.1, rfl⟩ T.2
    · refine callX_sy (T _ _ _ _ _ _ _ _ _ _ _ _ _ _ _ _ _ _ _ ((Y.turn 0 rfl To.slvw).pick [1, 2, 3, 4, 5, 0] rfl).hp) (fun _ _ ⟨_, _, _, _, _, _, _, p, _⟩ => p.fr) alln ?_
      rintro v hv5 ⟨pathsVA2_2, pathsVL2_2, pathsVC2_2, pathsH2_2, pathsV1_2, nV2_2, kindV2_2, PP, rfl, T⟩
      have Y : Sy _ _ hv5 [_, _, _, _, _, _] := Y.call2 [1, 5, 0, 2, 3, 4] rfl (A := [_, _]) rfl rfl PP ⟨rfl, ⟨rfl, trivial⟩⟩
      clear PP
      obtain rfl := Y.lenR 1 rfl
      refine ⟨rfl, ?_⟩
      exact ⟨_, _, _, _, _, _, _, Y.pick [0, 1] rfl, rfl, T⟩
/-- (*tracery/kura.form).parted -/
def Ok210 (nV : Int) (edgesV : List (Int × Int)) (outV : List (List Int)) (branchV : List Int) (pathsV : List (List Int)) (kindV : Int) (R : Int → List Int → List (List Int) → Int → Prop) : Prop :=
  ∀ (h : Heap) (fB : Nat) (edgesVA : Option Addr) (edgesVL edgesVC : Nat) (outVA : Option Addr) (outVL outVC : Nat) (outH : List RowH) (branchVA : Option Addr) (branchVL branchVC : Nat) (pathsVA : Option Addr) (pathsVL pathsVC : Nat) (pathsH : List RowH), Hp h [Ck.ob fB 190 [.int .i64 nV, .slice edgesVA edgesVL edgesVC, .slice outVA outVL outVC, .slice branchVA branchVL branchVC, .slice pathsVA pathsVL pathsVC, .int .i64 kindV], Ck.vw eP edgesVA edgesVL edgesVC edgesV, Ck.vrows eI outVA outVL outVC outH outV, Ck.sl eI 3 branchVA branchVL branchVC branchV, Ck.rows eI 40 3 pathsVA pathsVL pathsVC pathsH pathsV] → CallsH Try.prog 210 #[.pointer (some ⟨fB, 0, none⟩)] h fun v h' => ∃ (branchVA2 : Option Addr) (branchVL2 branchVC2 : Nat) (branchV1 : List Int) (pathsVA2 : Option Addr) (pathsVL2 pathsVC2 : Nat) (pathsH2 : List RowH) (pathsV1 : List (List Int)) (nV2 : Int) (kindV2 : Int), Sy h (owns [Ck.ob fB 190 [.int .i64 nV, .slice edgesVA edgesVL edgesVC, .slice outVA outVL outVC, .slice branchVA branchVL branchVC, .slice pathsVA pathsVL pathsVC, .int .i64 kindV], Ck.sl eI 3 branchVA branchVL branchVC branchV, Ck.rows eI 40 3 pathsVA pathsVL pathsVC pathsH pathsV]) h' [Ck.ob fB 190 [.int .i64 nV2, .slice edgesVA edgesVL edgesVC, .slice outVA outVL outVC, .slice branchVA2 branchVL2 branchVC2, .slice pathsVA2 pathsVL2 pathsVC2, .int .i64 kindV2], Ck.sl eI 3 branchVA2 branchVL2 branchVC2 branchV1, Ck.rows eI 40 3 pathsVA2 pathsVL2 pathsVC2 pathsH2 pathsV1] ∧ v = .tuple #[] ∧ R nV2 branchV1 pathsV1 kindV2
theorem Ok210.mono {nV edgesV outV branchV pathsV kindV} {R R' : Int → List Int → List (List Int) → Int → Prop} (H : Ok210 nV edgesV outV branchV pathsV kindV R) (kz : ∀ nV2 branchV1 pathsV1 kindV2, R nV2 branchV1 pathsV1 kindV2 → R' nV2 branchV1 pathsV1 kindV2) : Ok210 nV edgesV outV branchV pathsV kindV R' :=
  fun h fB edgesVA edgesVL edgesVC outVA outVL outVC outH branchVA branchVL branchVC pathsVA pathsVL pathsVC pathsH hp => (H h fB edgesVA edgesVL edgesVC outVA outVL outVC outH branchVA branchVL branchVC pathsVA pathsVL pathsVC pathsH hp).mono fun _ _ ⟨branchVA2, branchVL2, branchVC2, branchV1, pathsVA2, pathsVL2, pathsVC2, pathsH2, pathsV1, nV2, kindV2, P, e, q⟩ => ⟨branchVA2, branchVL2, branchVC2, branchV1, pathsVA2, pathsVL2, pathsVC2, pathsH2, pathsV1, nV2, kindV2, P, e, kz _ _ _ _ q⟩
/-- tracery/kura.of -/
def S157 (g : Int) (gA : Option Addr) (gL gC : Nat) (edgesA : Option Addr) (edgesL edgesC : Nat) (h : Heap) (R : Value → Heap → Prop) : Prop :=
  let hv : Heap := h.push (.cells #[.int .i64 g, .slice gA gL gC] 26)
  0 ≤ g ∧ g ≤ g ∧ ((24 : Nat) : Int) * g ≤ 281474976710656 ∧ g ≤ 9223372036854775807 ∧ let hv2 : Heap := hv.push (.cells (madeCells (List.toArray [.slice none 0 0]) (Int.toNat g * 1)) 40)
  Fr [] hv hv2 ∧
  let hv3 : Heap := hv2.push (.cells #[.int .i64 g, .slice gA gL gC, .slice (some (⟨hv.size, 0, none⟩ : Addr)) (Int.toNat g) (Int.toNat g), .slice none 0 0, .slice none 0 0, .int .i64 0] 190)
  Fr [] hv hv3 ∧
  ∃ (Iv : List Value → Heap → Prop) (m : List Value → Heap → Nat), Iv [.int .i64 0] hv3 ∧ -- loop 0: ['27']
  ∀ x : Int, ∀ hv4, Iv [.int .i64 x] hv4 →
  cnd (decide (x < ((edgesL : Nat) : Int)))
    (∃ b o, edgesA = some ⟨b, o, none⟩ ∧ 0 ≤ x ∧ x < (edgesL : Nat) ∧ ∃ x2 : Int, hcell hv4 b (o + (Int.toNat x) * 1) = some (.int .i64 x2) ∧ ∃ b2 o2, gA = some ⟨b2, o2, none⟩ ∧ 0 ≤ x2 ∧ x2 < (gL : Nat) ∧ ∃ x3 : Int, hcell hv4 b2 (o2 + (Int.toNat x2) * 2) = some (.int .i64 x3) ∧ ∃ x4 : Int, hcell hv4 b2 ((o2 + (Int.toNat x2) * 2) + 1) = some (.int .i64 x4) ∧ ∃ (Iv2 : List Value → Heap → Prop) (m2 : List Value → Heap → Nat), Iv2 [.int .i64 0] hv4 ∧ -- loop 2: ['36']
    ∀ x5 : Int, ∀ hv5, Iv2 [.int .i64 x5] hv5 →
    cnd (decide (x5 < (2 : Int)))
      (0 ≤ x5 ∧ x5 < ((2 : Nat) : Int) ∧ ∃ x6 : Int, (#[.int .i64 x3, .int .i64 x4] : Array Value)[Int.toNat x5]? = some (.int .i64 x6) ∧ ∃ Mv : List Nat, (∀ b ∈ ([h.size] : List Nat), b ∉ Mv) ∧
      hv2.size ∉ Mv ∧ ∃ (xA : Option Addr) (xL xC : Nat), hcell hv5 hv2.size (0 + 2) = some (.slice xA xL xC) ∧ hv2.size ∉ Mv ∧ ∃ (xA2 : Option Addr) (xL2 xC2 : Nat), hcell hv5 hv2.size (0 + 2) = some (.slice xA2 xL2 xC2) ∧ ∃ b3 o3, xA2 = some ⟨b3, o3, none⟩ ∧ 0 ≤ x6 ∧ x6 < (xL2 : Nat) ∧ b3 ∉ Mv ∧ ∃ (xA3 : Option Addr) (xL3 xC3 : Nat), hcell hv5 b3 (o3 + (Int.toNat x6) * 1) = some (.slice xA3 xL3 xC3) ∧ let hv6 : Heap := hv5.push (.cells #[.int .i64 (IntKind.i64.wrap ((IntKind.i64.wrap ((2 : Int) * x2)) + x5))] 3)
      Fr Mv hv5 hv6 ∧
      ∃ old, Ownd hv6 3 1 xA3 xL3 xC3 old ∧ (∀ b ∈ ([hv5.size, h.size] : List Nat), b ∉ blkOf xA3) ∧ (xL3 + 1) * 8 ≤ 140737488355328 ∧ (xL3 + 1) ≤ maxLen ∧
      ∀ sA sC hv7, Ownd hv7 3 1 sA (xL3 + 1) sC (old ++ [.int .i64 (IntKind.i64.wrap ((IntKind.i64.wrap ((2 : Int) * x2)) + x5))]) → Fr (blkOf xA3) hv6 hv7 → ((sA = xA3 ∧ sC = xC3) ∨ ∃ g, sA = some ⟨g, 0, none⟩ ∧ hv6.size ≤ g) → (xC3 < (xL3 + 1) → Fr [] hv6 hv7) →
      Fr Mv hv5 hv7 ∧
      ∃ b4 o4, xA = some ⟨b4, o4, none⟩ ∧ 0 ≤ x6 ∧ x6 < (xL : Nat) ∧ b4 ≠ hv5.size ∧ b4 ≠ h.size ∧ (∃ u, hcell hv7 b4 (o4 + (Int.toNat x6) * 1) = some u) ∧ hfree hv7 b4 (o4 + (Int.toNat x6) * 1) = true ∧ let hv8 : Heap := hset hv7 b4 (o4 + (Int.toNat x6) * 1) (.slice sA (xL3 + 1) sC)
      Iv2 [.int .i64 (IntKind.i64.wrap (x5 + (1 : Int)))] hv8 ∧ m2 [.int .i64 (IntKind.i64.wrap (x5 + (1 : Int)))] hv8 < m2 [.int .i64 x5] hv5)
      (Iv [.int .i64 (IntKind.i64.wrap (x + (1 : Int)))] hv5 ∧ m [.int .i64 (IntKind.i64.wrap (x + (1 : Int)))] hv5 < m [.int .i64 x] hv4))
    (callX Try.prog 207 #[.pointer (some (⟨hv2.size, 0, none⟩ : Addr))] hv4 [h.size] fun v hv9 =>
    ∃ ra : Int, ∃ rb : Bool, v = .tuple #[.int .i64 ra, .bool rb] ∧
    cnd (!rb)
      (R (.pointer (some (⟨hv2.size, 0, none⟩ : Addr))) hv9)
      (∃ (xA4 : Option Addr) (xL4 xC4 : Nat), hcell hv9 hv2.size (0 + 3) = some (.slice xA4 xL4 xC4) ∧ ∃ (Iv3 : List Value → Heap → Prop) (m3 : List Value → Heap → Nat), Iv3 [.int .i64 0] hv9 ∧ -- loop 4: ['74']
      ∀ x7 : Int, ∀ hv10, Iv3 [.int .i64 x7] hv10 →
      cnd (decide (x7 < ((xL4 : Nat) : Int)))
        (∃ b5 o5, xA4 = some ⟨b5, o5, none⟩ ∧ 0 ≤ x7 ∧ x7 < (xL4 : Nat) ∧ ∃ x8 : Int, hcell hv10 b5 (o5 + (Int.toNat x7) * 1) = some (.int .i64 x8) ∧ ∃ (xA5 : Option Addr) (xL5 xC5 : Nat), hcell hv10 hv2.size (0 + 2) = some (.slice xA5 xL5 xC5) ∧ ∃ b6 o6, xA5 = some ⟨b6, o6, none⟩ ∧ 0 ≤ x8 ∧ x8 < (xL5 : Nat) ∧ ∃ (xA6 : Option Addr) (xL6 xC6 : Nat), hcell hv10 b6 (o6 + (Int.toNat x8) * 1) = some (.slice xA6 xL6 xC6) ∧ ∃ (Iv4 : List Value → Heap → Prop) (m4 : List Value → Heap → Nat), Iv4 [.int .i64 0] hv10 ∧ -- loop 6: ['86']
        ∀ x9 : Int, ∀ hv11, Iv4 [.int .i64 x9] hv11 →
        cnd (decide (x9 < ((xL6 : Nat) : Int)))
          (∃ b7 o7, xA6 = some ⟨b7, o7, none⟩ ∧ 0 ≤ x9 ∧ x9 < (xL6 : Nat) ∧ ∃ x10 : Int, hcell hv11 b7 (o7 + (Int.toNat x9) * 1) = some (.int .i64 x10) ∧ callX Try.prog 208 #[.pointer (some (⟨hv2.size, 0, none⟩ : Addr)), .int .i64 x10] hv11 [] fun v2 hv12 =>
          v2 = .tuple #[] ∧
          Iv4 [.int .i64 (IntKind.i64.wrap (x9 + (1 : Int)))] hv12 ∧ m4 [.int .i64 (IntKind.i64.wrap (x9 + (1 : Int)))] hv12 < m4 [.int .i64 x9] hv11)
          (Iv3 [.int .i64 (IntKind.i64.wrap (x7 + (1 : Int)))] hv11 ∧ m3 [.int .i64 (IntKind.i64.wrap (x7 + (1 : Int)))] hv11 < m3 [.int .i64 x7] hv10))
        (∃ (xA7 : Option Addr) (xL7 xC7 : Nat), hcell hv10 hv2.size (0 + 4) = some (.slice xA7 xL7 xC7) ∧ ∃ (Iv5 : List Value → Heap → Prop) (m5 : List Value → Heap → Nat), Iv5 [.int .i64 0, .int .i64 0] hv10 ∧ -- loop 8: ['length', '100']
        ∀ length : Int, ∀ x11 : Int, ∀ hv13, Iv5 [.int .i64 length, .int .i64 x11] hv13 →
        cnd (decide (x11 < ((xL7 : Nat) : Int)))
          (∃ b8 o8, xA7 = some ⟨b8, o8, none⟩ ∧ 0 ≤ x11 ∧ x11 < (xL7 : Nat) ∧ ∃ (xA8 : Option Addr) (xL8 xC8 : Nat), hcell hv13 b8 (o8 + (Int.toNat x11) * 1) = some (.slice xA8 xL8 xC8) ∧ Iv5 [.int .i64 (IntKind.i64.wrap (length + ((xL8 : Nat) : Int))), .int .i64 (IntKind.i64.wrap (x11 + (1 : Int)))] hv13 ∧ m5 [.int .i64 (IntKind.i64.wrap (length + ((xL8 : Nat) : Int))), .int .i64 (IntKind.i64.wrap (x11 + (1 : Int)))] hv13 < m5 [.int .i64 length, .int .i64 x11] hv13)
          (cnd (length != (IntKind.i64.wrap ((2 : Int) * ((edgesL : Nat) : Int))))
            (R (.pointer (some (⟨hv2.size, 0, none⟩ : Addr))) hv13)
            (∃ Jv : List Value → Heap → Prop, -- join 116 []
            ( cnd (ra == (4 : Int))
               (callX Try.prog 209 #[.pointer (some (⟨hv2.size, 0, none⟩ : Addr))] hv13 [] fun v3 hv14 =>
               v3 = .tuple #[] ∧
               Jv [] hv14)
               (callX Try.prog 210 #[.pointer (some (⟨hv2.size, 0, none⟩ : Addr))] hv13 [] fun v4 hv15 =>
               v4 = .tuple #[] ∧
               Jv [] hv15)) ∧
            ∀ hv16, Jv [] hv16 →
            R (.pointer (some (⟨hv2.size, 0, none⟩ : Addr))) hv16)))))
theorem calls157 {h : Heap} {R : Value → Heap → Prop} (g : Int) (gA : Option Addr) (gL gC : Nat) (edgesA : Option Addr) (edgesL edgesC : Nat) (H : S157 g gA gL gC edgesA edgesL edgesC h R) : CallsH Try.prog 157 #[.agg #[.int .i64 g, .slice gA gL gC], .slice edgesA edgesL edgesC] h R := by
  have e : S157 g gA gL gC edgesA edgesL edgesC h R = FX (envX [2, 56] 122) { loops := [(0, ⟨[1, 2, 5, 25, 26], [27], [2], []⟩), (2, ⟨[1, 2, 5, 7, 25, 26, 27, 35], [36], [2], []⟩), (4, ⟨[1, 5, 10, 72, 73], [74], [], []⟩), (6, ⟨[1, 5, 10, 72, 73, 74, 84, 85], [86], [], []⟩), (8, ⟨[1, 5, 10, 98, 99], [16, 100], [], []⟩)], joins := [(116, ⟨[5], [], [], []⟩)], blocks := [], draws := [(1, ⟨7, false⟩), (8, ⟨18, true⟩)] } Try.f157 (Try.f157.body.getD .skip) [.agg #[.int .i64 g, .slice gA gL gC], .slice edgesA edgesL edgesC] h R := by kernel_rfl
  exact calls_of_FX (envX_ok _ _) Try.func157 (by kernel_rfl) (by kernel_rfl) (by kernel_rfl) (e ▸ H)
/-- tracery/kura.of -/
def Ok157 (g : Int) (edgesV : List (Int × Int)) (edgesV2 : List Int) (R : Int → List (List Int) → List Int → List (List Int) → Int → Prop) : Prop :=
  ∀ (h : Heap) (gA : Option Addr) (gL gC : Nat) (edgesA : Option Addr) (edgesL edgesC : Nat), Hp h [Ck.vw eP gA gL gC edgesV, Ck.vw eI edgesA edgesL edgesC edgesV2] → CallsH Try.prog 157 #[.agg #[.int .i64 g, .slice gA gL gC], .slice edgesA edgesL edgesC] h fun v h' => ∃ (rB : Nat) (nV : Int) (outVA : Option Addr) (outVL outVC : Nat) (outH : List RowH) (outV : List (List Int)) (branchVA : Option Addr) (branchVL branchVC : Nat) (branchV : List Int) (pathsVA : Option Addr) (pathsVL pathsVC : Nat) (pathsH : List RowH) (pathsV : List (List Int)) (kindV : Int), Sy h [] h' [Ck.ob rB 190 [.int .i64 nV, .slice gA gL gC, .slice outVA outVL outVC, .slice branchVA branchVL branchVC, .slice pathsVA pathsVL pathsVC, .int .i64 kindV], Ck.rows eI 40 3 outVA outVL outVC outH outV, Ck.sl eI 3 branchVA branchVL branchVC branchV, Ck.rows eI 40 3 pathsVA pathsVL pathsVC pathsH pathsV] ∧ v = .pointer (some ⟨rB, 0, none⟩) ∧ R nV outV branchV pathsV kindV
theorem Ok157.mono {g edgesV edgesV2} {R R' : Int → List (List Int) → List Int → List (List Int) → Int → Prop} (H : Ok157 g edgesV edgesV2 R) (kz : ∀ nV outV branchV pathsV kindV, R nV outV branchV pathsV kindV → R' nV outV branchV pathsV kindV) : Ok157 g edgesV edgesV2 R' :=
  fun h gA gL gC edgesA edgesL edgesC hp => (H h gA gL gC edgesA edgesL edgesC hp).mono fun _ _ ⟨rB, nV, outVA, outVL, outVC, outH, outV, branchVA, branchVL, branchVC, branchV, pathsVA, pathsVL, pathsVC, pathsH, pathsV, kindV, P, e, q⟩ => ⟨rB, nV, outVA, outVL, outVC, outH, outV, branchVA, branchVL, branchVC, branchV, pathsVA, pathsVL, pathsVC, pathsH, pathsV, kindV, P, e, kz _ _ _ _ _ q⟩
def T157 (g : Int) (edgesV : List (Int × Int)) (edgesV2 : List Int) (R : Int → List (List Int) → List Int → List (List Int) → Int → Prop) : Prop :=
  0 ≤ g ∧ g ≤ 1000000000000 ∧ ∃ (Iv : Int → List (List Int) → Prop) (m : Int → List (List Int) → Nat), Iv 0 (List.replicate (Int.toNat g) []) ∧
  ∀ x : Int, ∀ y : List (List Int), Iv x y →
  cnd (decide (x < ((edgesV2.length : Nat) : Int)))
    (0 ≤ x ∧ x < ((edgesV2.length : Nat) : Int) ∧ ∀ edges : Int, edgesV2[(Int.toNat x)]? = some edges → 0 ≤ edges ∧ edges < ((edgesV.length : Nat) : Int) ∧ ∀ g_2 : (Int × Int), edgesV[(Int.toNat edges)]? = some g_2 → ∃ (Iv2 : Int → List (List Int) → Prop) (m2 : Int → List (List Int) → Nat), Iv2 0 y ∧
    ∀ x5 : Int, ∀ y_2 : List (List Int), Iv2 x5 y_2 →
    cnd (decide (x5 < (2 : Int)))
      (0 ≤ x5 ∧ x5 < ((2 : Nat) : Int) ∧ ∃ x6 : Int, (#[.int .i64 g_2.1, .int .i64 g_2.2] : Array Value)[Int.toNat x5]? = some (.int .i64 x6) ∧ 0 ≤ x6 ∧ x6 < ((y_2.length : Nat) : Int) ∧ ∀ x_2 : List Int, y_2[(Int.toNat x6)]? = some x_2 → (x_2.length + 1) < 1000000000000 ∧ 0 ≤ x6 ∧ x6 < ((y_2.length : Nat) : Int) ∧ Iv2 (IntKind.i64.wrap (x5 + (1 : Int))) (y_2.set (Int.toNat x6) (x_2 ++ [(IntKind.i64.wrap ((IntKind.i64.wrap ((2 : Int) * edges)) + x5))])) ∧ m2 (IntKind.i64.wrap (x5 + (1 : Int))) (y_2.set (Int.toNat x6) (x_2 ++ [(IntKind.i64.wrap ((IntKind.i64.wrap ((2 : Int) * edges)) + x5))])) < m2 x5 y_2)
      (Iv (IntKind.i64.wrap (x + (1 : Int))) y_2 ∧ m (IntKind.i64.wrap (x + (1 : Int))) y_2 < m x y))
    (Ok207 g edgesV y ([] : List Int) ([] : List (List Int)) 0 (fun nV2 branchV1 kindV2 ra rb =>
    cnd (!rb)
      (R nV2 y branchV1 ([] : List (List Int)) kindV2)
      (∃ (Iv3 : Int → Int → List (List Int) → Int → Prop) (m3 : Int → Int → List (List Int) → Int → Nat), Iv3 0 nV2 ([]) kindV2 ∧
      ∀ x7 : Int, ∀ y_3 : Int, ∀ y_4 : List (List Int), ∀ y_5 : Int, Iv3 x7 y_3 y_4 y_5 →
      cnd (decide (x7 < ((branchV1.length : Nat) : Int)))
        (0 ≤ x7 ∧ x7 < ((branchV1.length : Nat) : Int) ∧ ∀ x_4 : Int, branchV1[(Int.toNat x7)]? = some x_4 → 0 ≤ x_4 ∧ x_4 < ((y.length : Nat) : Int) ∧ ∀ x_5 : List Int, y[(Int.toNat x_4)]? = some x_5 → ∃ (Iv4 : Int → Int → List (List Int) → Int → Prop) (m4 : Int → Int → List (List Int) → Int → Nat), Iv4 0 y_3 y_4 y_5 ∧
        ∀ x9 : Int, ∀ y_6 : Int, ∀ y_7 : List (List Int), ∀ y_8 : Int, Iv4 x9 y_6 y_7 y_8 →
        cnd (decide (x9 < ((x_5.length : Nat) : Int)))
          (0 ≤ x9 ∧ x9 < ((x_5.length : Nat) : Int) ∧ ∀ x_6 : Int, x_5[(Int.toNat x9)]? = some x_6 → Ok208 y_6 edgesV y branchV1 y_7 y_8 x_6 (fun nV2_2 pathsV1 kindV2_2 =>
          Iv4 (IntKind.i64.wrap (x9 + (1 : Int))) nV2_2 pathsV1 kindV2_2 ∧ m4 (IntKind.i64.wrap (x9 + (1 : Int))) nV2_2 pathsV1 kindV2_2 < m4 x9 y_6 y_7 y_8))
          (Iv3 (IntKind.i64.wrap (x7 + (1 : Int))) y_6 y_7 y_8 ∧ m3 (IntKind.i64.wrap (x7 + (1 : Int))) y_6 y_7 y_8 < m3 x7 y_3 y_4 y_5))
        (∃ (Iv5 : Int → Int → Prop) (m5 : Int → Int → Nat), Iv5 0 0 ∧
        ∀ length : Int, ∀ x11 : Int, Iv5 length x11 →
        cnd (decide (x11 < ((y_4.length : Nat) : Int)))
          (0 ≤ x11 ∧ x11 < ((y_4.length : Nat) : Int) ∧ ∀ x_7 : List Int, y_4[(Int.toNat x11)]? = some x_7 → Iv5 (IntKind.i64.wrap (length + ((x_7.length : Nat) : Int))) (IntKind.i64.wrap (x11 + (1 : Int))) ∧ m5 (IntKind.i64.wrap (length + ((x_7.length : Nat) : Int))) (IntKind.i64.wrap (x11 + (1 : Int))) < m5 length x11)
          (cnd (length != (IntKind.i64.wrap ((2 : Int) * ((edgesV2.length : Nat) : Int))))
            (R y_3 y branchV1 y_4 y_5)
            (∃ Jv : Int → List Int → List (List Int) → Int → Prop,
            ( cnd (ra == (4 : Int))
               (Ok209 y_3 edgesV y branchV1 y_4 y_5 (fun nV2_3 pathsV1_2 kindV2_3 =>
               Jv nV2_3 branchV1 pathsV1_2 kindV2_3))
               (Ok210 y_3 edgesV y branchV1 y_4 y_5 (fun nV2_4 branchV1_2 pathsV1_3 kindV2_4 =>
               Jv nV2_4 branchV1_2 pathsV1_3 kindV2_4))) ∧
            ∀ y_9 : Int, ∀ y_10 : List Int, ∀ y_11 : List (List Int), ∀ y_12 : Int, Jv y_9 y_10 y_11 y_12 →
            R y_9 y y_10 y_11 y_12))))))
theorem ok157 {g edgesV edgesV2} {R : Int → List (List Int) → List Int → List (List Int) → Int → Prop} (T : T157 g edgesV edgesV2 R) : Ok157 g edgesV edgesV2 R := by
  intro h gA gL gC edgesA edgesL edgesC H
  have Y : Sy h [] h _ := Sy.startM H rfl
  obtain rfl := Y.lenV 0 rfl
  obtain rfl := Y.lenV 1 rfl
  apply calls157
  unfold S157
  unfold T157 at T
  intro hv
  have Y : Sy _ _ hv [_, _, _] := Y.junk _
  clear_value hv
  have Y0 := Y
  have F : Fr [] hv hv := Fr.refl _ _
  obtain ⟨q, q_3, T⟩ := T
  refine ⟨q, Int.le_refl _, by omega, by omega, ?_⟩
  intro hv2
  have Y : Sy _ _ hv2 [_, _, _, _] := Y.mkR (ty := 40) eI 3 (Int.toNat g) (Int.toNat g) (Nat.le_refl _) (by simp [maxLen]; omega)
  have F : Fr _ _ hv2 := F.pushr _
  have fshv2 := F.size
  clear_value hv2
  refine ⟨F, ?_⟩
  intro hv3
  have Y : Sy _ _ hv3 [_, _, _, _, _] := Y.newO _
  have F : Fr _ _ hv3 := F.pushr _
  have fshv3 := F.size
  clear_value hv3
  refine ⟨F, ?_⟩
  obtain ⟨Iv, m, T0, T1⟩ := T
  obtain ⟨B, hB, YB⟩ := Y.cut [4, 3] [0, 1, 2] rfl
  obtain ⟨F, hF⟩ := Y.fnO (k := 4) [2] rfl
  obtain ⟨JJ, hJJ⟩ : ∃ JJ : Nat → List Value → Heap → Prop, JJ = (fun k lz h' => ∃ (x : Int) (cA : Option Addr) (cL cC : Nat) (yH : List RowH) (y : List (List Int)), lz = [.int .i64 x] ∧ Sy h [] h' ([F [.slice cA cL cC], Ck.rows eI 40 3 cA cL cC yH y] ++ B) ∧ Iv x y ∧ m x y = k) := ⟨_, rfl⟩
  refine ⟨fun lz h' => ∃ k, JJ k lz h', Lm JJ, ?_, ?_⟩
  · subst hJJ hB hF
    exact ⟨_, _, _, _, _, _, _, rfl, YB, T0, rfl⟩
  · clear YB T0 Y
    intro x hv4 hI
    obtain ⟨k, hI, hm⟩ := loopIn hI
    subst hJJ hB hF
    obtain ⟨x, cA, cL, cC, yH, y, e, Y, T, rfl⟩ := hI
    cases e
    obtain rfl := Y.lenR 1 rfl
    replace T := T1 x y T
    have Y : Sy _ _ _ [_, _, _, _, _] := Y
    refine cnd_imp T (fun T => ?_) (fun T => ?_)
    · obtain ⟨q_4, q_5, T⟩ := T
      obtain ⟨b_2, o_2, hb, hr, edges, hx⟩ := Y.atV 3 rfl q_4 q_5
      refine ⟨b_2, o_2, hb, q_4, q_5, ?_⟩
      replace T := T edges hx
      refine ⟨_, Y.cellV 3 rfl hb (t := 0) hx rfl, ?_⟩
      obtain ⟨q_6, q_7, T⟩ := T
      obtain ⟨b_3, o_3, hb_2, hr_2, g_2, hx_2⟩ := Y.atV 2 rfl q_6 q_7
      refine ⟨b_3, o_3, hb_2, q_6, q_7, ?_⟩
      replace T := T g_2 hx_2
      refine ⟨_, Y.cellV 2 rfl hb_2 (t := 0) hx_2 rfl, ?_⟩
      refine ⟨_, Y.cellV 2 rfl hb_2 (t := 1) hx_2 rfl, ?_⟩
      obtain ⟨Iv2, m2, T0, T1⟩ := T
      obtain ⟨B_2, hB_2, YB⟩ := Y.cut [0, 1] [2, 3, 4] rfl
      obtain ⟨F_2, hF_2⟩ := Y.fnO (k := 0) [2] rfl
      obtain ⟨JJ_2, hJJ_2⟩ : ∃ JJ_2 : Nat → List Value → Heap → Prop, JJ_2 = (fun k_2 lz h' => ∃ (x5 : Int) (cA_2 : Option Addr) (cL_2 cC_2 : Nat) (y_2H : List RowH) (y_2 : List (List Int)), lz = [.int .i64 x5] ∧ Sy h [] h' ([F_2 [.slice cA_2 cL_2 cC_2], Ck.rows eI 40 3 cA_2 cL_2 cC_2 y_2H y_2] ++ B_2) ∧ Iv2 x5 y_2 ∧ m2 x5 y_2 = k_2) := ⟨_, rfl⟩
      refine ⟨fun lz h' => ∃ k_2, JJ_2 k_2 lz h', Lm JJ_2, ?_, ?_⟩
      · subst hJJ_2 hB_2 hF_2
        exact ⟨_, _, _, _, _, _, _, rfl, YB, T0, rfl⟩
      · clear YB T0 Y
        intro x5 hv5 hI
        obtain ⟨k_2, hI, hm_2⟩ := loopIn hI
        subst hJJ_2 hB_2 hF_2
        obtain ⟨x5, cA_2, cL_2, cC_2, y_2H, y_2, e, Y, T, rfl⟩ := hI
        cases e
        obtain rfl := Y.lenR 1 rfl
        replace T := T1 x5 y_2 T
        have Y : Sy _ _ _ [_, _, _, _, _] := Y
        refine cnd_imp T (fun T => ?_) (fun T => ?_)
        · obtain ⟨q_8, q_9, x6, q_10, T⟩ := T
          refine ⟨q_8, q_9, x6, q_10, ?_⟩
          have Y0 := Y
          obtain ⟨Mx, hMx⟩ := Y.mt [] [1]
          refine ⟨Mx, ?_⟩
          subst hMx
          refine ⟨(allc (Y0.nMJ 4 [] [1] rfl rfl) alln), ?_⟩
          have F : Fr _ hv5 hv5 := Y0.frM [] [1]
          refine ⟨(Y0.nMo 0 [] [1] rfl rfl (by simp [Ck.ob])), ?_⟩
          refine ⟨_, _, _, Y0.cellO 0 rfl 2 rfl, ?_⟩
          refine ⟨(Y0.nMo 0 [] [1] rfl rfl (by simp [Ck.ob])), ?_⟩
          refine ⟨_, _, _, Y0.cellO 0 rfl 2 rfl, ?_⟩
          obtain ⟨q_11, q_12, T⟩ := T
          obtain ⟨b_4, hb_3, ho, x_2, hx_3, r, hr_3⟩ := Y0.atR 1 rfl q_11 q_12
          refine ⟨b_4, 0, hb_3, q_11, q_12, ?_⟩
          refine ⟨(Y0.nMr 1 [] [1] rfl rfl hb_3), ?_⟩
          replace T := T x_2 hx_3
          refine ⟨_, _, _, Y0.cellR 1 rfl hb_3 hr_3 hx_3, ?_⟩
          intro hv6
          have Y : Sy _ _ hv6 [_, _, _, _, _, _] := Y.junk _
          have F : Fr _ _ hv6 := F.pushr _
          have fshv6 := F.size
          clear_value hv6
          refine ⟨F, ?_⟩
          have Y : Sy _ _ _ [_, _, _, _, _, _, _] := Y.takeR 1 rfl hr_3 hx_3
          obtain ⟨q_13, T⟩ := T
          refine ⟨_, Y.ownS 6 rfl, (allc (Y.nJ 6 5 rfl rfl rfl) (allc (Y.nJ 6 4 rfl rfl rfl) alln)), by first | exact appB q_13 (by decide) | omega, by first | exact appM q_13 | (simp [maxLen]; omega), ?_⟩
          intro sA sC hv7 ow fA gA gB
          have Y : Sy _ _ hv7 [_, _, _, _, _, _, _] := Y.appS 6 rfl ([(IntKind.i64.wrap ((IntKind.i64.wrap ((2 : Int) * edges)) + x5))] : List Int) ow fA gA rfl rfl
          have ns := F.appIn (Y0.inMr 1 [] [1] rfl rfl hr_3) gA fshv6
          have F : Fr _ _ hv7 := F.comp fA (Y0.inMr 1 [] [1] rfl rfl hr_3)
          have fshv7 := F.size
          refine ⟨F, ?_⟩
          obtain ⟨q_14, q_15, T⟩ := T
          obtain ⟨b_5, hb_4, ho_2, x_3, hx_4, r_2, hr_4⟩ := Y.atR 1 rfl q_14 q_15
          refine ⟨b_5, 0, hb_4, q_14, q_15, ?_⟩
          refine ⟨(Y.neJ 1 5 rfl rfl rfl (memR hb_4)), (Y.neJ 1 4 rfl rfl rfl (memR hb_4)), (Y.cellRX 1 rfl hb_4 (by omega)), Y.freeR 1 rfl hb_4 _, ?_⟩
          intro hv8
          have Y : Sy _ _ hv8 [_, _, _, _, _, _, _] := Y.putX 1 6 rfl rfl hb_4 rfl (by omega)
          clear_value hv8
          exact loopBack hm_2 ⟨_, _, _, _, _, _, rfl, Y.pick [0, 1, 2, 3, 4] rfl, T.1, rfl⟩ T.2
        · exact loopBack hm ⟨_, _, _, _, _, _, rfl, Y.pick [0, 1, 2, 3, 4] rfl, T.1, rfl⟩ T.2
    · have Y : Sy _ _ _ [_, _, _, _, _, _] := Y.nilS eI 3
      have Y : Sy _ _ _ [_, _, _, _, _, _, _] := Y.nilR eI 40 3
      refine callX_sy (T _ _ _ _ _ _ _ _ _ _ _ _ _ _ _ _ (((Y.turn 1 rfl To.rowsv).turn 6 rfl To.rowsv).pick [0, 2, 1, 5, 6] rfl).hp) (fun _ _ ⟨_, _, _, _, _, _, _, _, p, _⟩ => p.fr) (allc (Y.nO 4 [0, 5] rfl rfl) alln) ?_
      rintro v hv9 ⟨branchVA2, branchVL2, branchVC2, branchV1, nV2, kindV2, ra, rb, PP, rfl, T⟩
      have Y : Sy _ _ hv9 [_, _, _, _, _, _, _] := Y.call2 [0, 5, 1, 2, 3, 4, 6] rfl (A := [_, _]) rfl rfl PP ⟨rfl, ⟨rfl, trivial⟩⟩
      clear PP
      obtain rfl := Y.lenS 1 rfl
      refine ⟨ra, rb, rfl, ?_⟩
      refine cnd_imp T (fun T => ?_) (fun T => ?_)
      · have Y : Sy _ _ _ [_, _, _, _, _, _, _, _] := Y.nilR eI 40 3
        exact ⟨_, _, _, _, _, _, _, _, _, _, _, _, _, _, _, _, _, Y.pick [0, 2, 1, 7] rfl, rfl, T⟩
      · refine ⟨_, _, _, Y.cellO 0 rfl 3 rfl, ?_⟩
        have Y : Sy _ _ _ [_, _, _, _, _, _, _, _] := Y.nilR eI 40 3
        obtain ⟨Iv3, m3, T0, T1⟩ := T
        obtain ⟨B_3, hB_3, YB⟩ := Y.cut [0, 7] [1, 2, 3, 4, 5, 6] rfl
        obtain ⟨F_3, hF_3⟩ := Y.fnO (k := 0) [0, 4, 5] rfl
        obtain ⟨JJ_3, hJJ_3⟩ : ∃ JJ_3 : Nat → List Value → Heap → Prop, JJ_3 = (fun k_3 lz h' => ∃ (x7 : Int) (y_3 : Int) (cA_3 : Option Addr) (cL_3 cC_3 : Nat) (y_4H : List RowH) (y_4 : List (List Int)) (y_5 : Int), lz = [.int .i64 x7] ∧ Sy h [] h' ([F_3 [.int .i64 y_3, .slice cA_3 cL_3 cC_3, .int .i64 y_5], Ck.rows eI 40 3 cA_3 cL_3 cC_3 y_4H y_4] ++ B_3) ∧ Iv3 x7 y_3 y_4 y_5 ∧ m3 x7 y_3 y_4 y_5 = k_3) := ⟨_, rfl⟩
        refine ⟨fun lz h' => ∃ k_3, JJ_3 k_3 lz h', Lm JJ_3, ?_, ?_⟩
        · subst hJJ_3 hB_3 hF_3
          exact ⟨_, _, _, _, _, _, _, _, _, rfl, YB, T0, rfl⟩
        · clear YB T0 Y
          intro x7 hv10 hI
          obtain ⟨k_3, hI, hm_3⟩ := loopIn hI
          subst hJJ_3 hB_3 hF_3
          obtain ⟨x7, y_3, cA_3, cL_3, cC_3, y_4H, y_4, y_5, e, Y, T, rfl⟩ := hI
          cases e
          obtain rfl := Y.lenR 1 rfl
          replace T := T1 x7 y_3 y_4 y_5 T
          have Y : Sy _ _ _ [_, _, _, _, _, _, _, _] := Y
          refine cnd_imp T (fun T => ?_) (fun T => ?_)
          · obtain ⟨q_16, q_17, T⟩ := T
            obtain ⟨b_6, hb_5, ho_3, x_4, hx_5⟩ := Y.atS 2 rfl q_16 q_17
            refine ⟨b_6, 0, hb_5, q_16, q_17, ?_⟩
            replace T := T x_4 hx_5
            refine ⟨_, Y.cellS 2 rfl hb_5 (t := 0) hx_5 rfl, ?_⟩
            refine ⟨_, _, _, Y.cellO 0 rfl 2 rfl, ?_⟩
            obtain ⟨q_18, q_19, T⟩ := T
            obtain ⟨b_7, hb_6, ho_4, x_5, hx_6, r_3, hr_5⟩ := Y.atR 3 rfl q_18 q_19
            refine ⟨b_7, 0, hb_6, q_18, q_19, ?_⟩
            replace T := T x_5 hx_6
            refine ⟨_, _, _, Y.cellR 3 rfl hb_6 hr_5 hx_6, ?_⟩
            obtain ⟨Iv4, m4, T0, T1⟩ := T
            obtain ⟨B_4, hB_4, YB⟩ := Y.cut [0, 1] [2, 3, 4, 5, 6, 7] rfl
            obtain ⟨F_4, hF_4⟩ := Y.fnO (k := 0) [0, 4, 5] rfl
            obtain ⟨JJ_4, hJJ_4⟩ : ∃ JJ_4 : Nat → List Value → Heap → Prop, JJ_4 = (fun k_4 lz h' => ∃ (x9 : Int) (y_6 : Int) (cA_4 : Option Addr) (cL_4 cC_4 : Nat) (y_7H : List RowH) (y_7 : List (List Int)) (y_8 : Int), lz = [.int .i64 x9] ∧ Sy h [] h' ([F_4 [.int .i64 y_6, .slice cA_4 cL_4 cC_4, .int .i64 y_8], Ck.rows eI 40 3 cA_4 cL_4 cC_4 y_7H y_7] ++ B_4) ∧ Iv4 x9 y_6 y_7 y_8 ∧ m4 x9 y_6 y_7 y_8 = k_4) := ⟨_, rfl⟩
            refine ⟨fun lz h' => ∃ k_4, JJ_4 k_4 lz h', Lm JJ_4, ?_, ?_⟩
            · subst hJJ_4 hB_4 hF_4
              exact ⟨_, _, _, _, _, _, _, _, _, rfl, YB, T0, rfl⟩
            · clear YB T0 Y
              intro x9 hv11 hI
              obtain ⟨k_4, hI, hm_4⟩ := loopIn hI
              subst hJJ_4 hB_4 hF_4
              obtain ⟨x9, y_6, cA_4, cL_4, cC_4, y_7H, y_7, y_8, e, Y, T, rfl⟩ := hI
              cases e
              obtain rfl := Y.lenR 1 rfl
              replace T := T1 x9 y_6 y_7 y_8 T
              have Y : Sy _ _ _ [_, _, _, _, _, _, _, _] := Y
              refine cnd_imp T (fun T => ?_) (fun T => ?_)
              · obtain ⟨q_20, q_21, T⟩ := T
                obtain ⟨b_8, hb_7, ho_5, x_6, hx_7⟩ := Y.atRow 3 rfl hr_5 hx_6 q_20 q_21
                refine ⟨b_8, 0, hb_7, q_20, q_21, ?_⟩
                replace T := T x_6 hx_7
                refine ⟨_, Y.cellRow 3 rfl hr_5 hx_6 hb_7 (t := 0) hx_7 rfl, ?_⟩
                refine callX_sy (T _ _ _ _ _ _ _ _ _ _ _ _ _ _ _ _ (((Y.turn 3 rfl To.rowsv).turn 2 rfl To.slvw).pick [0, 4, 3, 2, 1] rfl).hp) (fun _ _ ⟨_, _, _, _, _, _, _, p, _⟩ => p.fr) alln ?_
                rintro v2 hv12 ⟨pathsVA2, pathsVL2, pathsVC2, pathsH2, pathsV1, nV2_2, kindV2_2, PP, rfl, T⟩
                have Y : Sy _ _ hv12 [_, _, _, _, _, _, _, _] := Y.call2 [0, 1, 2, 3, 4, 5, 6, 7] rfl (A := [_, _]) rfl rfl PP ⟨rfl, ⟨rfl, trivial⟩⟩
                clear PP
                obtain rfl := Y.lenR 1 rfl
                refine ⟨rfl, ?_⟩
                exact loopBack hm_4 ⟨_, _, _, _, _, _, _, _, rfl, Y.pick [0, 1, 2, 3, 4, 5, 6, 7] rfl, T.1, rfl⟩ T.2
              · exact loopBack hm_3 ⟨_, _, _, _, _, _, _, _, rfl, Y.pick [0, 1, 2, 3, 4, 5, 6, 7] rfl, T.1, rfl⟩ T.2
          · refine ⟨_, _, _, Y.cellO 0 rfl 4 rfl, ?_⟩
            obtain ⟨Iv5, m5, T0, T1⟩ := T
            obtain ⟨B_5, hB_5, YB⟩ := Y.cut [] [0, 1, 2, 3, 4, 5, 6, 7] rfl
            obtain ⟨JJ_5, hJJ_5⟩ : ∃ JJ_5 : Nat → List Value → Heap → Prop, JJ_5 = (fun k_5 lz h' => ∃ (length : Int) (x11 : Int), lz = [.int .i64 length, .int .i64 x11] ∧ Sy h [] h' ([] ++ B_5) ∧ Iv5 length x11 ∧ m5 length x11 = k_5) := ⟨_, rfl⟩
            refine ⟨fun lz h' => ∃ k_5, JJ_5 k_5 lz h', Lm JJ_5, ?_, ?_⟩
            · subst hJJ_5 hB_5
              exact ⟨_, _, _, rfl, YB, T0, rfl⟩
            · clear YB T0 Y
              intro length x11 hv13 hI
              obtain ⟨k_5, hI, hm_5⟩ := loopIn hI
              subst hJJ_5 hB_5
              obtain ⟨length, x11, e, Y, T, rfl⟩ := hI
              cases e
              replace T := T1 length x11 T
              have Y : Sy _ _ _ [_, _, _, _, _, _, _, _] := Y
              refine cnd_imp T (fun T => ?_) (fun T => ?_)
              · obtain ⟨q_22, q_23, T⟩ := T
                obtain ⟨b_9, hb_8, ho_6, x_7, hx_8, r_4, hr_6⟩ := Y.atR 1 rfl q_22 q_23
                refine ⟨b_9, 0, hb_8, q_22, q_23, ?_⟩
                replace T := T x_7 hx_8
                refine ⟨_, _, _, Y.cellR 1 rfl hb_8 hr_6 hx_8, ?_⟩
                exact loopBack hm_5 ⟨_, _, rfl, Y.pick [0, 1, 2, 3, 4, 5, 6, 7] rfl, T.1, rfl⟩ T.2
              · refine cnd_imp T (fun T => ?_) (fun T => ?_)
                · exact ⟨_, _, _, _, _, _, _, _, _, _, _, _, _, _, _, _, _, Y.pick [0, 3, 2, 1] rfl, rfl, T⟩
                · obtain ⟨Jv, T0, T1⟩ := T
                  obtain ⟨B_6, hB_6, _⟩ := Y.cut [] [3, 4, 5, 6, 7] rfl
                  obtain ⟨F_5, hF_5⟩ := Y.fnO (k := 0) [0, 3, 4, 5] rfl
                  refine ⟨fun lz h' => ∃ (y_9 : Int) (cA_5 : Option Addr) (cL_5 cC_5 : Nat) (y_10 : List Int) (cA_6 : Option Addr) (cL_6 cC_6 : Nat) (y_11H : List RowH) (y_11 : List (List Int)) (y_12 : Int), lz = [] ∧ Sy h [] h' ([F_5 [.int .i64 y_9, .slice cA_5 cL_5 cC_5, .slice cA_6 cL_6 cC_6, .int .i64 y_12], Ck.sl eI 3 cA_5 cL_5 cC_5 y_10, Ck.rows eI 40 3 cA_6 cL_6 cC_6 y_11H y_11] ++ B_6) ∧ Jv y_9 y_10 y_11 y_12, ?_, ?_⟩
                  · subst hB_6 hF_5
                    replace T := T0
                    clear T0 T1
                    refine cnd_imp T (fun T => ?_) (fun T => ?_)
                    · refine callX_sy (T _ _ _ _ _ _ _ _ _ _ _ _ _ _ _ _ (((Y.turn 3 rfl To.rowsv).turn 2 rfl To.slvw).pick [0, 4, 3, 2, 1] rfl).hp) (fun _ _ ⟨_, _, _, _, _, _, _, p, _⟩ => p.fr) alln ?_
                      rintro v3 hv14 ⟨pathsVA2_2, pathsVL2_2, pathsVC2_2, pathsH2_2, pathsV1_2, nV2_3, kindV2_3, PP, rfl, T⟩
                      have Y : Sy _ _ hv14 [_, _, _, _, _, _, _, _] := Y.call2 [0, 1, 2, 3, 4, 5, 6, 7] rfl (A := [_, _]) rfl rfl PP ⟨rfl, ⟨rfl, trivial⟩⟩
                      clear PP
                      obtain rfl := Y.lenR 1 rfl
                      refine ⟨rfl, ?_⟩
                      exact ⟨_, _, _, _, _, _, _, _, _, _, _, rfl, Y.pick [0, 2, 1, 3, 4, 5, 6, 7] rfl, T⟩
                    · refine callX_sy (T _ _ _ _ _ _ _ _ _ _ _ _ _ _ _ _ ((Y.turn 3 rfl To.rowsv).pick [0, 4, 3, 2, 1] rfl).hp) (fun _ _ ⟨_, _, _, _, _, _, _, _, _, _, _, p, _⟩ => p.fr) alln ?_
                      rintro v4 hv15 ⟨branchVA2_2, branchVL2_2, branchVC2_2, branchV1_2, pathsVA2_3, pathsVL2_3, pathsVC2_3, pathsH2_3, pathsV1_3, nV2_4, kindV2_4, PP, rfl, T⟩
                      have Y : Sy _ _ hv15 [_, _, _, _, _, _, _, _] := Y.call2 [0, 2, 1, 3, 4, 5, 6, 7] rfl (A := [_, _, _]) rfl rfl PP ⟨rfl, ⟨rfl, ⟨rfl, trivial⟩⟩⟩
                      clear PP
                      obtain rfl := Y.lenS 1 rfl
                      obtain rfl := Y.lenR 2 rfl
                      refine ⟨rfl, ?_⟩
                      exact ⟨_, _, _, _, _, _, _, _, _, _, _, rfl, Y.pick [0, 1, 2, 3, 4, 5, 6, 7] rfl, T⟩
                  · subst hB_6 hF_5
                    clear T0 Y
                    rintro hv16 ⟨y_9, cA_5, cL_5, cC_5, y_10, cA_6, cL_6, cC_6, y_11H, y_11, y_12, e, Y, T⟩
                    cases e
                    obtain rfl := Y.lenS 1 rfl
                    obtain rfl := Y.lenR 2 rfl
                    replace T := T1 y_9 y_10 y_11 y_12 T
                    have Y : Sy _ _ _ [_, _, _, _, _, _, _, _] := Y
                    exact ⟨_, _, _, _, _, _, _, _, _, _, _, _, _, _, _, _, _, Y.pick [0, 3, 1, 2] rfl, rfl, T⟩
/-- tracery/kura.Kind -/
def S64 (g : Int) (gA : Option Addr) (gL gC : Nat) (edgesA : Option Addr) (edgesL edgesC : Nat) (h : Heap) (R : Value → Heap → Prop) : Prop :=
  let hv : Heap := h.push (.cells #[.int .i64 g, .slice gA gL gC] 26)
  callX Try.prog 156 #[.agg #[.int .i64 g, .slice gA gL gC], .slice edgesA edgesL edgesC] hv [h.size] fun v hv2 =>
  ∃ r : Int, v = .int .i64 r ∧
  cnd (r != (0 : Int))
    (R (.tuple #[.int .i64 0, .int .i64 r]) hv2)
    (callX Try.prog 157 #[.agg #[.int .i64 g, .slice gA gL gC], .slice edgesA edgesL edgesC] hv2 [h.size] fun v2 hv3 =>
    ∃ rP : Option Addr, v2 = .pointer rP ∧
    ∃ b o, rP = some ⟨b, o, none⟩ ∧ ∃ x : Int, hcell hv3 b (o + 5) = some (.int .i64 x) ∧ R (.tuple #[.int .i64 x, .int .i64 0]) hv3)
theorem calls64 {h : Heap} {R : Value → Heap → Prop} (g : Int) (gA : Option Addr) (gL gC : Nat) (edgesA : Option Addr) (edgesL edgesC : Nat) (H : S64 g gA gL gC edgesA edgesL edgesC h R) : CallsH Try.prog 64 #[.agg #[.int .i64 g, .slice gA gL gC], .slice edgesA edgesL edgesC] h R := by
  have e : S64 g gA gL gC edgesA edgesL edgesC h R = FX (envX [2] 19) { loops := [], joins := [], blocks := [], draws := [] } Try.f64 (Try.f64.body.getD .skip) [.agg #[.int .i64 g, .slice gA gL gC], .slice edgesA edgesL edgesC] h R := by kernel_rfl
  exact calls_of_FX (envX_ok _ _) Try.func64 (by kernel_rfl) (by kernel_rfl) (by kernel_rfl) (e ▸ H)
/-- tracery/kura.Kind -/
def Ok64 (g : Int) (edgesV : List (Int × Int)) (edgesV2 : List Int) (R : Int → Int → Prop) : Prop :=
  ∀ (h : Heap) (gA : Option Addr) (gL gC : Nat) (edgesA : Option Addr) (edgesL edgesC : Nat), Hp h [Ck.vw eP gA gL gC edgesV, Ck.vw eI edgesA edgesL edgesC edgesV2] → CallsH Try.prog 64 #[.agg #[.int .i64 g, .slice gA gL gC], .slice edgesA edgesL edgesC] h fun v h' => ∃ (raV : Int) (rbV : Int), Sy h [] h' [] ∧ v = .tuple #[.int .i64 raV, .int .i64 rbV] ∧ R raV rbV
theorem Ok64.mono {g edgesV edgesV2} {R R' : Int → Int → Prop} (H : Ok64 g edgesV edgesV2 R) (kz : ∀ raV rbV, R raV rbV → R' raV rbV) : Ok64 g edgesV edgesV2 R' :=
  fun h gA gL gC edgesA edgesL edgesC hp => (H h gA gL gC edgesA edgesL edgesC hp).mono fun _ _ ⟨raV, rbV, P, e, q⟩ => ⟨raV, rbV, P, e, kz _ _ q⟩
def T64 (g : Int) (edgesV : List (Int × Int)) (edgesV2 : List Int) (R : Int → Int → Prop) : Prop :=
  Ok156 g edgesV edgesV2 (fun r =>
  cnd (r != (0 : Int))
    (R 0 r)
    (Ok157 g edgesV edgesV2 (fun nV outV branchV pathsV kindV =>
    R kindV 0)))
theorem ok64 {g edgesV edgesV2} {R : Int → Int → Prop} (T : T64 g edgesV edgesV2 R) : Ok64 g edgesV edgesV2 R := by
  intro h gA gL gC edgesA edgesL edgesC H
  have Y : Sy h [] h _ := Sy.startM H rfl
  obtain rfl := Y.lenV 0 rfl
  obtain rfl := Y.lenV 1 rfl
  apply calls64
  unfold S64
  unfold T64 at T
  intro hv
  have Y : Sy _ _ hv [_, _, _] := Y.junk _
  clear_value hv
  refine callX_sy (T _ _ _ _ _ _ _ (Y.pick [0, 1] rfl).hp) (fun _ _ ⟨_, p, _⟩ => p.fr) (allc (fun h => by cases h) alln) ?_
  rintro v hv2 ⟨r, PP, rfl, T⟩
  have Y : Sy _ _ hv2 [_, _, _] := Y.gr PP.fr
  clear PP
  refine ⟨r, rfl, ?_⟩
  refine cnd_imp T (fun T => ?_) (fun T => ?_)
  · exact ⟨_, _, Y.pick [] rfl, rfl, T⟩
  · refine callX_sy (T _ _ _ _ _ _ _ (Y.pick [0, 1] rfl).hp) (fun _ _ ⟨_, _, _, _, _, _, _, _, _, _, _, _, _, _, _, _, _, p, _⟩ => p.fr) (allc (fun h => by cases h) alln) ?_
    rintro v2 hv3 ⟨rB_2, nV, outVA, outVL, outVC, outH, outV, branchVA, branchVL, branchVC, branchV, pathsVA, pathsVL, pathsVC, pathsH, pathsV, kindV, PP, rfl, T⟩
    have Y : Sy _ _ hv3 [_, _, _, _, _, _, _] := Y.callV PP ⟨rfl, ⟨rfl, ⟨rfl, ⟨rfl, trivial⟩⟩⟩⟩
    clear PP
    obtain rfl := Y.lenR 4 rfl
    obtain rfl := Y.lenS 5 rfl
    obtain rfl := Y.lenR 6 rfl
    refine ⟨_, rfl, ?_⟩
    refine ⟨rB_2, 0, rfl, ?_⟩
    refine ⟨_, Y.cellO 3 rfl 5 rfl, ?_⟩
    exact ⟨_, _, Y.pick [] rfl, rfl, T⟩
/-- tracery/kura.found -/
def S158 (g : Int) (gA : Option Addr) (gL gC : Nat) (edgesA : Option Addr) (edgesL edgesC : Nat) (h : Heap) (R : Value → Heap → Prop) : Prop :=
  let hv : Heap := h.push (.cells #[.int .i64 g, .slice gA gL gC] 26)
  callX Try.prog 156 #[.agg #[.int .i64 g, .slice gA gL gC], .slice edgesA edgesL edgesC] hv [h.size] fun v hv2 =>
  ∃ r : Int, v = .int .i64 r ∧
  cnd (r != (0 : Int))
    (R (.tuple #[.pointer none, .int .i64 r]) hv2)
    (callX Try.prog 157 #[.agg #[.int .i64 g, .slice gA gL gC], .slice edgesA edgesL edgesC] hv2 [h.size] fun v2 hv3 =>
    ∃ rP : Option Addr, v2 = .pointer rP ∧
    ∃ b o, rP = some ⟨b, o, none⟩ ∧ ∃ x : Int, hcell hv3 b (o + 5) = some (.int .i64 x) ∧ cnd (x == (0 : Int))
      (R (.tuple #[.pointer none, .int .i64 14]) hv3)
      (R (.tuple #[.pointer rP, .int .i64 0]) hv3))
theorem calls158 {h : Heap} {R : Value → Heap → Prop} (g : Int) (gA : Option Addr) (gL gC : Nat) (edgesA : Option Addr) (edgesL edgesC : Nat) (H : S158 g gA gL gC edgesA edgesL edgesC h R) : CallsH Try.prog 158 #[.agg #[.int .i64 g, .slice gA gL gC], .slice edgesA edgesL edgesC] h R := by
  have e : S158 g gA gL gC edgesA edgesL edgesC h R = FX (envX [2] 23) { loops := [], joins := [], blocks := [], draws := [] } Try.f158 (Try.f158.body.getD .skip) [.agg #[.int .i64 g, .slice gA gL gC], .slice edgesA edgesL edgesC] h R := by kernel_rfl
  exact calls_of_FX (envX_ok _ _) Try.func158 (by kernel_rfl) (by kernel_rfl) (by kernel_rfl) (e ▸ H)
/-- tracery/kura.found -/
def Ok158 (g : Int) (edgesV : List (Int × Int)) (edgesV2 : List Int) (R : Bool → Int → List (List Int) → List Int → List (List Int) → Int → Int → Prop) : Prop :=
  ∀ (h : Heap) (gA : Option Addr) (gL gC : Nat) (edgesA : Option Addr) (edgesL edgesC : Nat), Hp h [Ck.vw eP gA gL gC edgesV, Ck.vw eI edgesA edgesL edgesC edgesV2] → CallsH Try.prog 158 #[.agg #[.int .i64 g, .slice gA gL gC], .slice edgesA edgesL edgesC] h fun v h' => ∃ (raB : Nat) (raN : Bool) (nV : Int) (outVA : Option Addr) (outVL outVC : Nat) (outH : List RowH) (outV : List (List Int)) (branchVA : Option Addr) (branchVL branchVC : Nat) (branchV : List Int) (pathsVA : Option Addr) (pathsVL pathsVC : Nat) (pathsH : List RowH) (pathsV : List (List Int)) (kindV : Int) (rbV : Int), Sy h [] h' [Ck.opt raN (Ck.ob raB 190 [.int .i64 nV, .slice gA gL gC, .slice outVA outVL outVC, .slice branchVA branchVL branchVC, .slice pathsVA pathsVL pathsVC, .int .i64 kindV]), Ck.opt raN (Ck.rows eI 40 3 outVA outVL outVC outH outV), Ck.opt raN (Ck.sl eI 3 branchVA branchVL branchVC branchV), Ck.opt raN (Ck.rows eI 40 3 pathsVA pathsVL pathsVC pathsH pathsV)] ∧ v = .tuple #[.pointer (optA raN raB), .int .i64 rbV] ∧ R raN nV outV branchV pathsV kindV rbV
theorem Ok158.mono {g edgesV edgesV2} {R R' : Bool → Int → List (List Int) → List Int → List (List Int) → Int → Int → Prop} (H : Ok158 g edgesV edgesV2 R) (kz : ∀ raN nV outV branchV pathsV kindV rbV, R raN nV outV branchV pathsV kindV rbV → R' raN nV outV branchV pathsV kindV rbV) : Ok158 g edgesV edgesV2 R' :=
  fun h gA gL gC edgesA edgesL edgesC hp => (H h gA gL gC edgesA edgesL edgesC hp).mono fun _ _ ⟨raB, raN, nV, outVA, outVL, outVC, outH, outV, branchVA, branchVL, branchVC, branchV, pathsVA, pathsVL, pathsVC, pathsH, pathsV, kindV, rbV, P, e, q⟩ => ⟨raB, raN, nV, outVA, outVL, outVC, outH, outV, branchVA, branchVL, branchVC, branchV, pathsVA, pathsVL, pathsVC, pathsH, pathsV, kindV, rbV, P, e, kz _ _ _ _ _ _ _ q⟩
def T158 (g : Int) (edgesV : List (Int × Int)) (edgesV2 : List Int) (R : Bool → Int → List (List Int) → List Int → List (List Int) → Int → Int → Prop) : Prop :=
  Ok156 g edgesV edgesV2 (fun r =>
  cnd (r != (0 : Int))
    (R true 0 ([]) ([]) ([]) 0 r)
    (Ok157 g edgesV edgesV2 (fun nV_2 outV_2 branchV_2 pathsV_2 kindV_2 =>
    cnd (kindV_2 == (0 : Int))
      (R true 0 ([]) ([]) ([]) 0 14)
      (R false nV_2 outV_2 branchV_2 pathsV_2 kindV_2 0))))
theorem ok158 {g edgesV edgesV2} {R : Bool → Int → List (List Int) → List Int → List (List Int) → Int → Int → Prop} (T : T158 g edgesV edgesV2 R) : Ok158 g edgesV edgesV2 R := by
  intro h gA gL gC edgesA edgesL edgesC H
  have Y : Sy h [] h _ := Sy.startM H rfl
  obtain rfl := Y.lenV 0 rfl
  obtain rfl := Y.lenV 1 rfl
  apply calls158
  unfold S158
  unfold T158 at T
  intro hv
  have Y : Sy _ _ hv [_, _, _] := Y.junk _
  clear_value hv
  refine callX_sy (T _ _ _ _ _ _ _ (Y.pick [0, 1] rfl).hp) (fun _ _ ⟨_, p, _⟩ => p.fr) (allc (fun h => by cases h) alln) ?_
  rintro v hv2 ⟨r, PP, rfl, T⟩
  have Y : Sy _ _ hv2 [_, _, _] := Y.gr PP.fr
  clear PP
  refine ⟨r, rfl, ?_⟩
  refine cnd_imp T (fun T => ?_) (fun T => ?_)
  · have Y : Sy _ _ _ [_, _, _, _] := Y.addNo
    have Y : Sy _ _ _ [_, _, _, _, _] := Y.addNo
    have Y : Sy _ _ _ [_, _, _, _, _, _] := Y.addNo
    have Y : Sy _ _ _ [_, _, _, _, _, _, _] := Y.addNo
    exact ⟨0, true, 0, none, 0, 0, [], [], none, 0, 0, [], none, 0, 0, [], [], 0, _, Y.pick [3, 4, 5, 6] rfl, rfl, T⟩
  · refine callX_sy (T _ _ _ _ _ _ _ (Y.pick [0, 1] rfl).hp) (fun _ _ ⟨_, _, _, _, _, _, _, _, _, _, _, _, _, _, _, _, _, p, _⟩ => p.fr) (allc (fun h => by cases h) alln) ?_
    rintro v2 hv3 ⟨rB_2, nV_2, outVA_2, outVL_2, outVC_2, outH_2, outV_2, branchVA_2, branchVL_2, branchVC_2, branchV_2, pathsVA_2, pathsVL_2, pathsVC_2, pathsH_2, pathsV_2, kindV_2, PP, rfl, T⟩
    have Y : Sy _ _ hv3 [_, _, _, _, _, _, _] := Y.callV PP ⟨rfl, ⟨rfl, ⟨rfl, ⟨rfl, trivial⟩⟩⟩⟩
    clear PP
    obtain rfl := Y.lenR 4 rfl
    obtain rfl := Y.lenS 5 rfl
    obtain rfl := Y.lenR 6 rfl
    refine ⟨_, rfl, ?_⟩
    refine ⟨rB_2, 0, rfl, ?_⟩
    refine ⟨_, Y.cellO 3 rfl 5 rfl, ?_⟩
    refine cnd_imp T (fun T => ?_) (fun T => ?_)
    · have Y : Sy _ _ _ [_, _, _, _, _, _, _, _] := Y.addNo
      have Y : Sy _ _ _ [_, _, _, _, _, _, _, _, _] := Y.addNo
      have Y : Sy _ _ _ [_, _, _, _, _, _, _, _, _, _] := Y.addNo
      have Y : Sy _ _ _ [_, _, _, _, _, _, _, _, _, _, _] := Y.addNo
      exact ⟨0, true, 0, none, 0, 0, [], [], none, 0, 0, [], none, 0, 0, [], [], 0, _, Y.pick [7, 8, 9, 10] rfl, rfl, T⟩
    · exact ⟨_, false, _, _, _, _, _, _, _, _, _, _, _, _, _, _, _, _, _, Y.pick [3, 4, 5, 6] rfl, rfl, T⟩
/-- tracery/kura.Branch -/
def S65 (g : Int) (gA : Option Addr) (gL gC : Nat) (edgesA : Option Addr) (edgesL edgesC : Nat) (h : Heap) (R : Value → Heap → Prop) : Prop :=
  let hv : Heap := h.push (.cells #[.int .i64 g, .slice gA gL gC] 26)
  callX Try.prog 158 #[.agg #[.int .i64 g, .slice gA gL gC], .slice edgesA edgesL edgesC] hv [h.size] fun v hv2 =>
  ∃ raP : Option Addr, ∃ rb : Int, v = .tuple #[.pointer raP, .int .i64 rb] ∧
  cnd (rb != (0 : Int))
    (R (.tuple #[.slice none 0 0, .int .i64 rb]) hv2)
    (∃ b o, raP = some ⟨b, o, none⟩ ∧ ∃ (xA : Option Addr) (xL xC : Nat), hcell hv2 b (o + 3) = some (.slice xA xL xC) ∧ R (.tuple #[.slice xA xL xC, .int .i64 0]) hv2)
theorem calls65 {h : Heap} {R : Value → Heap → Prop} (g : Int) (gA : Option Addr) (gL gC : Nat) (edgesA : Option Addr) (edgesL edgesC : Nat) (H : S65 g gA gL gC edgesA edgesL edgesC h R) : CallsH Try.prog 65 #[.agg #[.int .i64 g, .slice gA gL gC], .slice edgesA edgesL edgesC] h R := by
  have e : S65 g gA gL gC edgesA edgesL edgesC h R = FX (envX [2] 21) { loops := [], joins := [], blocks := [], draws := [] } Try.f65 (Try.f65.body.getD .skip) [.agg #[.int .i64 g, .slice gA gL gC], .slice edgesA edgesL edgesC] h R := by kernel_rfl
  exact calls_of_FX (envX_ok _ _) Try.func65 (by kernel_rfl) (by kernel_rfl) (by kernel_rfl) (e ▸ H)
/-- tracery/kura.Branch -/
def Ok65 (g : Int) (edgesV : List (Int × Int)) (edgesV2 : List Int) (R : List Int → Int → Prop) : Prop :=
  ∀ (h : Heap) (gA : Option Addr) (gL gC : Nat) (edgesA : Option Addr) (edgesL edgesC : Nat), Hp h [Ck.vw eP gA gL gC edgesV, Ck.vw eI edgesA edgesL edgesC edgesV2] → CallsH Try.prog 65 #[.agg #[.int .i64 g, .slice gA gL gC], .slice edgesA edgesL edgesC] h fun v h' => ∃ (raVA : Option Addr) (raVL raVC : Nat) (raV : List Int) (rbV : Int), Sy h [] h' [Ck.sl eI 3 raVA raVL raVC raV] ∧ v = .tuple #[.slice raVA raVL raVC, .int .i64 rbV] ∧ R raV rbV
theorem Ok65.mono {g edgesV edgesV2} {R R' : List Int → Int → Prop} (H : Ok65 g edgesV edgesV2 R) (kz : ∀ raV rbV, R raV rbV → R' raV rbV) : Ok65 g edgesV edgesV2 R' :=
  fun h gA gL gC edgesA edgesL edgesC hp => (H h gA gL gC edgesA edgesL edgesC hp).mono fun _ _ ⟨raVA, raVL, raVC, raV, rbV, P, e, q⟩ => ⟨raVA, raVL, raVC, raV, rbV, P, e, kz _ _ q⟩
def T65 (g : Int) (edgesV : List (Int × Int)) (edgesV2 : List Int) (R : List Int → Int → Prop) : Prop :=
  Ok158 g edgesV edgesV2 (fun raN nV outV branchV pathsV kindV rb =>
  cnd raN
    (cnd (rb != (0 : Int))
      (R ([] : List Int) rb)
      (False))
    (cnd (rb != (0 : Int))
      (R ([] : List Int) rb)
      (R branchV 0)))
theorem ok65 {g edgesV edgesV2} {R : List Int → Int → Prop} (T : T65 g edgesV edgesV2 R) : Ok65 g edgesV edgesV2 R := by
  intro h gA gL gC edgesA edgesL edgesC H
  have Y : Sy h [] h _ := Sy.startM H rfl
  obtain rfl := Y.lenV 0 rfl
  obtain rfl := Y.lenV 1 rfl
  apply calls65
  unfold S65
  unfold T65 at T
  intro hv
  have Y : Sy _ _ hv [_, _, _] := Y.junk _
  clear_value hv
  refine callX_sy (T _ _ _ _ _ _ _ (Y.pick [0, 1] rfl).hp) (fun _ _ ⟨_, _, _, _, _, _, _, _, _, _, _, _, _, _, _, _, _, _, _, p, _⟩ => p.fr) (allc (fun h => by cases h) alln) ?_
  rintro v hv2 ⟨raB_2, raN, nV, outVA, outVL, outVC, outH, outV, branchVA, branchVL, branchVC, branchV, pathsVA, pathsVL, pathsVC, pathsH, pathsV, kindV, rb, PP, rfl, T⟩
  cases raN
  · replace T := T.2 rfl
    have Y : Sy _ _ hv2 [_, _, _, _, _, _, _] := Y.callV PP ⟨rfl, ⟨rfl, ⟨rfl, ⟨rfl, trivial⟩⟩⟩⟩
    clear PP
    obtain rfl := Y.lenR 4 rfl
    obtain rfl := Y.lenS 5 rfl
    obtain rfl := Y.lenR 6 rfl
    refine ⟨_, rb, rfl, ?_⟩
    refine cnd_imp T (fun T => ?_) (fun T => ?_)
    · have Y : Sy _ _ _ [_, _, _, _, _, _, _, _] := Y.nilS eI 3
      exact ⟨_, _, _, _, _, Y.pick [7] rfl, rfl, T⟩
    · refine ⟨raB_2, 0, rfl, ?_⟩
      refine ⟨_, _, _, Y.cellO 3 rfl 3 rfl, ?_⟩
      exact ⟨_, _, _, _, _, Y.pick [5] rfl, rfl, T⟩
  · replace T := T.1 rfl
    have Y : Sy _ _ hv2 [_, _, _] := Y.gr PP.fr
    clear PP
    refine ⟨_, rb, rfl, ?_⟩
    refine cnd_imp T (fun T => ?_) (fun T => ?_)
    · have Y : Sy _ _ _ [_, _, _, _] := Y.nilS eI 3
      exact ⟨_, _, _, _, _, Y.pick [3] rfl, rfl, T⟩
    · exact T.elim
/-- tracery/kura.Paths -/
def S66 (g : Int) (gA : Option Addr) (gL gC : Nat) (edgesA : Option Addr) (edgesL edgesC : Nat) (h : Heap) (R : Value → Heap → Prop) : Prop :=
  let hv : Heap := h.push (.cells #[.int .i64 g, .slice gA gL gC] 26)
  callX Try.prog 158 #[.agg #[.int .i64 g, .slice gA gL gC], .slice edgesA edgesL edgesC] hv [h.size] fun v hv2 =>
  ∃ raP : Option Addr, ∃ rb : Int, v = .tuple #[.pointer raP, .int .i64 rb] ∧
  cnd (rb != (0 : Int))
    (R (.tuple #[.slice none 0 0, .int .i64 rb]) hv2)
    (∃ b o, raP = some ⟨b, o, none⟩ ∧ ∃ (xA : Option Addr) (xL xC : Nat), hcell hv2 b (o + 4) = some (.slice xA xL xC) ∧ R (.tuple #[.slice xA xL xC, .int .i64 0]) hv2)
theorem calls66 {h : Heap} {R : Value → Heap → Prop} (g : Int) (gA : Option Addr) (gL gC : Nat) (edgesA : Option Addr) (edgesL edgesC : Nat) (H : S66 g gA gL gC edgesA edgesL edgesC h R) : CallsH Try.prog 66 #[.agg #[.int .i64 g, .slice gA gL gC], .slice edgesA edgesL edgesC] h R := by
  have e : S66 g gA gL gC edgesA edgesL edgesC h R = FX (envX [2] 21) { loops := [], joins := [], blocks := [], draws := [] } Try.f66 (Try.f66.body.getD .skip) [.agg #[.int .i64 g, .slice gA gL gC], .slice edgesA edgesL edgesC] h R := by kernel_rfl
  exact calls_of_FX (envX_ok _ _) Try.func66 (by kernel_rfl) (by kernel_rfl) (by kernel_rfl) (e ▸ H)
/-- tracery/kura.Paths -/
def Ok66 (g : Int) (edgesV : List (Int × Int)) (edgesV2 : List Int) (R : List (List Int) → Int → Prop) : Prop :=
  ∀ (h : Heap) (gA : Option Addr) (gL gC : Nat) (edgesA : Option Addr) (edgesL edgesC : Nat), Hp h [Ck.vw eP gA gL gC edgesV, Ck.vw eI edgesA edgesL edgesC edgesV2] → CallsH Try.prog 66 #[.agg #[.int .i64 g, .slice gA gL gC], .slice edgesA edgesL edgesC] h fun v h' => ∃ (raVA : Option Addr) (raVL raVC : Nat) (raH : List RowH) (raV : List (List Int)) (rbV : Int), Sy h [] h' [Ck.rows eI 40 3 raVA raVL raVC raH raV] ∧ v = .tuple #[.slice raVA raVL raVC, .int .i64 rbV] ∧ R raV rbV
theorem Ok66.mono {g edgesV edgesV2} {R R' : List (List Int) → Int → Prop} (H : Ok66 g edgesV edgesV2 R) (kz : ∀ raV rbV, R raV rbV → R' raV rbV) : Ok66 g edgesV edgesV2 R' :=
  fun h gA gL gC edgesA edgesL edgesC hp => (H h gA gL gC edgesA edgesL edgesC hp).mono fun _ _ ⟨raVA, raVL, raVC, raH, raV, rbV, P, e, q⟩ => ⟨raVA, raVL, raVC, raH, raV, rbV, P, e, kz _ _ q⟩
def T66 (g : Int) (edgesV : List (Int × Int)) (edgesV2 : List Int) (R : List (List Int) → Int → Prop) : Prop :=
  Ok158 g edgesV edgesV2 (fun raN nV outV branchV pathsV kindV rb =>
  cnd raN
    (cnd (rb != (0 : Int))
      (R ([]) rb)
      (False))
    (cnd (rb != (0 : Int))
      (R ([]) rb)
      (R pathsV 0)))
theorem ok66 {g edgesV edgesV2} {R : List (List Int) → Int → Prop} (T : T66 g edgesV edgesV2 R) : Ok66 g edgesV edgesV2 R := by
  intro h gA gL gC edgesA edgesL edgesC H
  have Y : Sy h [] h _ := Sy.startM H rfl
  obtain rfl := Y.lenV 0 rfl
  obtain rfl := Y.lenV 1 rfl
  apply calls66
  unfold S66
  unfold T66 at T
  intro hv
  have Y : Sy _ _ hv [_, _, _] := Y.junk _
  clear_value hv
  refine callX_sy (T _ _ _ _ _ _ _ (Y.pick [0, 1] rfl).hp) (fun _ _ ⟨_, _, _, _, _, _, _, _, _, _, _, _, _, _, _, _, _, _, _, p, _⟩ => p.fr) (allc (fun h => by cases h) alln) ?_
  rintro v hv2 ⟨raB_2, raN, nV, outVA, outVL, outVC, outH, outV, branchVA, branchVL, branchVC, branchV, pathsVA, pathsVL, pathsVC, pathsH, pathsV, kindV, rb, PP, rfl, T⟩
  cases raN
  · replace T := T.2 rfl
    have Y : Sy _ _ hv2 [_, _, _, _, _, _, _] := Y.callV PP ⟨rfl, ⟨rfl, ⟨rfl, ⟨rfl, trivial⟩⟩⟩⟩
    clear PP
    obtain rfl := Y.lenR 4 rfl
    obtain rfl := Y.lenS 5 rfl
    obtain rfl := Y.lenR 6 rfl
    refine ⟨_, rb, rfl, ?_⟩
    refine cnd_imp T (fun T => ?_) (fun T => ?_)
    · have Y : Sy _ _ _ [_, _, _, _, _, _, _, _] := Y.nilR eI 40 3
      exact ⟨_, _, _, _, _, _, Y.pick [7] rfl, rfl, T⟩
    · refine ⟨raB_2, 0, rfl, ?_⟩
      refine ⟨_, _, _, Y.cellO 3 rfl 4 rfl, ?_⟩
      exact ⟨_, _, _, _, _, _, Y.pick [6] rfl, rfl, T⟩
  · replace T := T.1 rfl
    have Y : Sy _ _ hv2 [_, _, _] := Y.gr PP.fr
    clear PP
    refine ⟨_, rb, rfl, ?_⟩
    refine cnd_imp T (fun T => ?_) (fun T => ?_)
    · have Y : Sy _ _ _ [_, _, _, _] := Y.nilR eI 40 3
      exact ⟨_, _, _, _, _, _, Y.pick [3] rfl, rfl, T⟩
    · exact T.elim
/-- slices.Index[[]int,int] -/
def S160 (sA : Option Addr) (sL sC : Nat) (v : Int) (h : Heap) (R : Value → Heap → Prop) : Prop :=
  ∃ (Iv : List Value → Heap → Prop) (m : List Value → Heap → Nat), Iv [.int .i64 0] h ∧ -- loop 0: ['8']
  ∀ x : Int, ∀ hv, Iv [.int .i64 x] hv →
  cnd (decide (x < ((sL : Nat) : Int)))
    (∃ b o, sA = some ⟨b, o, none⟩ ∧ 0 ≤ x ∧ x < (sL : Nat) ∧ ∃ x2 : Int, hcell hv b (o + (Int.toNat x) * 1) = some (.int .i64 x2) ∧ cnd (v == x2)
      (R (.int .i64 x) hv)
      (Iv [.int .i64 (IntKind.i64.wrap (x + (1 : Int)))] hv ∧ m [.int .i64 (IntKind.i64.wrap (x + (1 : Int)))] hv < m [.int .i64 x] hv))
    (R (.int .i64 (-1)) hv)
theorem calls160 {h : Heap} {R : Value → Heap → Prop} (sA : Option Addr) (sL sC : Nat) (v : Int) (H : S160 sA sL sC v h R) : CallsH Try.prog 160 #[.slice sA sL sC, .int .i64 v] h R := by
  have e : S160 sA sL sC v h R = FX (envX [] 19) { loops := [(0, ⟨[0, 1, 7], [8], [], []⟩)], joins := [], blocks := [], draws := [] } Try.f160 (Try.f160.body.getD .skip) [.slice sA sL sC, .int .i64 v] h R := by kernel_rfl
  exact calls_of_FX (envX_ok _ _) Try.func160 (by kernel_rfl) (by kernel_rfl) (by kernel_rfl) (e ▸ H)
/-- slices.Index[[]int,int] -/
def Ok160 (sV : List Int) (v : Int) (R : Int → Prop) : Prop :=
  ∀ (h : Heap) (sA : Option Addr) (sL sC : Nat), Hp h [Ck.vw eI sA sL sC sV] → CallsH Try.prog 160 #[.slice sA sL sC, .int .i64 v] h fun v h' => ∃ (rV : Int), Sy h [] h' [] ∧ v = .int .i64 rV ∧ R rV
theorem Ok160.mono {sV v} {R R' : Int → Prop} (H : Ok160 sV v R) (kz : ∀ rV, R rV → R' rV) : Ok160 sV v R' :=
  fun h sA sL sC hp => (H h sA sL sC hp).mono fun _ _ ⟨rV, P, e, q⟩ => ⟨rV, P, e, kz _ q⟩
def T160 (sV : List Int) (v : Int) (R : Int → Prop) : Prop :=
  ∃ (Iv : Int → Prop) (m : Int → Nat), Iv 0 ∧
  ∀ x : Int, Iv x →
  cnd (decide (x < ((sV.length : Nat) : Int)))
    (0 ≤ x ∧ x < ((sV.length : Nat) : Int) ∧ ∀ s : Int, sV[(Int.toNat x)]? = some s → cnd (v == s)
      (R x)
      (Iv (IntKind.i64.wrap (x + (1 : Int))) ∧ m (IntKind.i64.wrap (x + (1 : Int))) < m x))
    (R (-1))
theorem ok160 {sV v} {R : Int → Prop} (T : T160 sV v R) : Ok160 sV v R := by
  intro h sA sL sC H
  have Y : Sy h [] h _ := Sy.startM H rfl
  obtain rfl := Y.lenV 0 rfl
  apply calls160
  unfold S160
  unfold T160 at T
  obtain ⟨Iv, m, T0, T1⟩ := T
  obtain ⟨B, hB, YB⟩ := Y.cut [] [0] rfl
  obtain ⟨JJ, hJJ⟩ : ∃ JJ : Nat → List Value → Heap → Prop, JJ = (fun k lz h' => ∃ (x : Int), lz = [.int .i64 x] ∧ Sy h [] h' ([] ++ B) ∧ Iv x ∧ m x = k) := ⟨_, rfl⟩
  refine ⟨fun lz h' => ∃ k, JJ k lz h', Lm JJ, ?_, ?_⟩
  · subst hJJ hB
    exact ⟨_, _, rfl, YB, T0, rfl⟩
  · clear YB T0 Y
    intro x hv hI
    obtain ⟨k, hI, hm⟩ := loopIn hI
    subst hJJ hB
    obtain ⟨x, e, Y, T, rfl⟩ := hI
    cases e
    replace T := T1 x T
    have Y : Sy _ _ _ [_] := Y
    refine cnd_imp T (fun T => ?_) (fun T => ?_)
    · obtain ⟨q, q_2, T⟩ := T
      obtain ⟨b_2, o_2, hb, hr, s, hx⟩ := Y.atV 0 rfl q q_2
      refine ⟨b_2, o_2, hb, q, q_2, ?_⟩
      replace T := T s hx
      refine ⟨_, Y.cellV 0 rfl hb (t := 0) hx rfl, ?_⟩
      refine cnd_imp T (fun T => ?_) (fun T => ?_)
      · exact ⟨_, Y.pick [] rfl, rfl, T⟩
      · exact loopBack hm ⟨_, rfl, Y.pick [0] rfl, T.1, rfl⟩ T.2
    · exact ⟨_, Y.pick [] rfl, rfl, T⟩
/-- tracery/kura.Shrink -/
def S67 (g : Int) (gA : Option Addr) (gL gC : Nat) (edgesA : Option Addr) (edgesL edgesC : Nat) (h : Heap) (R : Value → Heap → Prop) : Prop :=
  let hv : Heap := h.push (.cells #[.int .i64 g, .slice gA gL gC] 26)
  let hv2 : Heap := hv.push (.cells #[.int .i64 0, .slice none 0 0] 26)
  callX Try.prog 158 #[.agg #[.int .i64 g, .slice gA gL gC], .slice edgesA edgesL edgesC] hv2 [hv.size, h.size] fun v hv3 =>
  ∃ raP : Option Addr, ∃ rb : Int, v = .tuple #[.pointer raP, .int .i64 rb] ∧
  cnd (rb != (0 : Int))
    (let hv4 : Heap := hset (hset hv3 hv.size 0 (.int .i64 0)) hv.size (0 + 1) (.slice none 0 0)
    R (.tuple #[.agg #[.int .i64 0, .slice none 0 0], .int .i64 rb]) hv4)
    (∃ b o, raP = some ⟨b, o, none⟩ ∧ ∃ (xA : Option Addr) (xL xC : Nat), hcell hv3 b (o + 3) = some (.slice xA xL xC) ∧ let hv5 : Heap := hv3.push (.cells #[.int .i64 0, .slice none 0 0] 26)
    let hv6 : Heap := hset (hset hv5 hv3.size 0 (.int .i64 ((xL : Nat) : Int))) hv3.size (0 + 1) (.slice none 0 0)
    ∃ b2 o2, raP = some ⟨b2, o2, none⟩ ∧ ∃ (xA2 : Option Addr) (xL2 xC2 : Nat), hcell hv6 b2 (o2 + 4) = some (.slice xA2 xL2 xC2) ∧ ∃ (Iv : List Value → Heap → Prop) (m : List Value → Heap → Nat), Iv [.int .i64 0, .int .i64 ((xL : Nat) : Int), .slice none 0 0] hv6 ∧ -- loop 0: ['34']
    ∀ x : Int, ∀ c0 : Int, ∀ (c1A : Option Addr) (c1L c1C : Nat), ∀ hv7, Iv [.int .i64 x, .int .i64 c0, .slice c1A c1L c1C] hv7 →
    cnd (decide (x < ((xL2 : Nat) : Int)))
      (∃ b3 o3, xA2 = some ⟨b3, o3, none⟩ ∧ 0 ≤ x ∧ x < (xL2 : Nat) ∧ ∃ (xA3 : Option Addr) (xL3 xC3 : Nat), hcell hv7 b3 (o3 + (Int.toNat x) * 1) = some (.slice xA3 xL3 xC3) ∧ ∃ b4 o4, xA3 = some ⟨b4, o4, none⟩ ∧ 0 ≤ (0 : Int) ∧ (0 : Int) < (xL3 : Nat) ∧ ∃ x2 : Int, hcell hv7 b4 (o4 + (Int.toNat (0 : Int)) * 1) = some (.int .i64 x2) ∧ ∃ b5 o5, xA3 = some ⟨b5, o5, none⟩ ∧ 0 ≤ (IntKind.i64.wrap (((xL3 : Nat) : Int) - (1 : Int))) ∧ (IntKind.i64.wrap (((xL3 : Nat) : Int) - (1 : Int))) < (xL3 : Nat) ∧ ∃ x3 : Int, hcell hv7 b5 (o5 + (Int.toNat (IntKind.i64.wrap (((xL3 : Nat) : Int) - (1 : Int)))) * 1) = some (.int .i64 x3) ∧ callX Try.prog 159 #[.pointer raP, .int .i64 (bits .xor .i64 x2 (1 : Int))] hv7 [hv3.size, hv.size] fun v2 hv8 =>
      ∃ r : Int, v2 = .int .i64 r ∧
      Fr [] hv7 hv8 ∧
      callX Try.prog 159 #[.pointer raP, .int .i64 x3] hv8 [hv3.size, hv.size] fun v3 hv9 =>
      ∃ r2 : Int, v3 = .int .i64 r2 ∧
      Fr [] hv7 hv9 ∧
      ∃ b6 o6, raP = some ⟨b6, o6, none⟩ ∧ ∃ (xA4 : Option Addr) (xL4 xC4 : Nat), hcell hv9 b6 (o6 + 3) = some (.slice xA4 xL4 xC4) ∧ ∃ b7 o7, raP = some ⟨b7, o7, none⟩ ∧ ∃ (xA5 : Option Addr) (xL5 xC5 : Nat), hcell hv9 b7 (o7 + 3) = some (.slice xA5 xL5 xC5) ∧ callX Try.prog 160 #[.slice xA4 xL4 xC4, .int .i64 r] hv9 [hv3.size, hv.size] fun v4 hv10 =>
      ∃ r3 : Int, v4 = .int .i64 r3 ∧
      Fr [] hv9 hv10 ∧
      callX Try.prog 160 #[.slice xA5 xL5 xC5, .int .i64 r2] hv10 [hv3.size, hv.size] fun v5 hv11 =>
      ∃ r4 : Int, v5 = .int .i64 r4 ∧
      Fr [] hv9 hv11 ∧
      let hv12 : Heap := hv11.push (.cells #[.int .i64 r3, .int .i64 r4] 35)
      Fr [] hv9 hv12 ∧
      ∃ old, Ownd hv12 35 2 c1A c1L c1C old ∧ (∀ b ∈ ([hv11.size, hv3.size, hv.size] : List Nat), b ∉ blkOf c1A) ∧ (c1L + 1) * 16 ≤ 140737488355328 ∧ (c1L + 1) ≤ maxLen ∧
      ∀ sA sC hv13, Ownd hv13 35 2 sA (c1L + 1) sC (old ++ [.int .i64 r3, .int .i64 r4]) → Fr (blkOf c1A) hv12 hv13 → ((sA = c1A ∧ sC = c1C) ∨ ∃ g, sA = some ⟨g, 0, none⟩ ∧ hv12.size ≤ g) → (c1C < (c1L + 1) → Fr [] hv12 hv13) →
      let hv14 : Heap := hset hv13 hv3.size 1 (.slice sA (c1L + 1) sC)
      Iv [.int .i64 (IntKind.i64.wrap (x + (1 : Int))), .int .i64 c0, .slice sA (c1L + 1) sC] hv14 ∧ m [.int .i64 (IntKind.i64.wrap (x + (1 : Int))), .int .i64 c0, .slice sA (c1L + 1) sC] hv14 < m [.int .i64 x, .int .i64 c0, .slice c1A c1L c1C] hv7)
      (let hv15 : Heap := hset (hset hv7 hv.size 0 (.int .i64 c0)) hv.size (0 + 1) (.slice c1A c1L c1C)
      R (.tuple #[.agg #[.int .i64 c0, .slice c1A c1L c1C], .int .i64 0]) hv15))
theorem calls67 {h : Heap} {R : Value → Heap → Prop} (g : Int) (gA : Option Addr) (gL gC : Nat) (edgesA : Option Addr) (edgesL edgesC : Nat) (H : S67 g gA gL gC edgesA edgesL edgesC h R) : CallsH Try.prog 67 #[.agg #[.int .i64 g, .slice gA gL gC], .slice edgesA edgesL edgesC] h R := by
  have e : S67 g gA gL gC edgesA edgesL edgesC h R = FX (envX [2, 4, 8, 67] 72) { loops := [(0, ⟨[4, 6, 8, 32, 33], [34], [4], [8]⟩)], joins := [], blocks := [], draws := [(8, ⟨16, false⟩), (9, ⟨16, false⟩)] } Try.f67 (Try.f67.body.getD .skip) [.agg #[.int .i64 g, .slice gA gL gC], .slice edgesA edgesL edgesC] h R := by kernel_rfl
  exact calls_of_FX (envX_ok _ _) Try.func67 (by kernel_rfl) (by kernel_rfl) (by kernel_rfl) (e ▸ H)
/-- tracery/kura.Shrink -/
def Ok67 (g : Int) (edgesV : List (Int × Int)) (edgesV2 : List Int) (R : Int → List (Int × Int) → Int → Prop) : Prop :=
  ∀ (h : Heap) (gA : Option Addr) (gL gC : Nat) (edgesA : Option Addr) (edgesL edgesC : Nat), Hp h [Ck.vw eP gA gL gC edgesV, Ck.vw eI edgesA edgesL edgesC edgesV2] → CallsH Try.prog 67 #[.agg #[.int .i64 g, .slice gA gL gC], .slice edgesA edgesL edgesC] h fun v h' => ∃ (nV : Int) (edgesVA : Option Addr) (edgesVL edgesVC : Nat) (edgesV3 : List (Int × Int)) (rbV : Int), Sy h [] h' [Ck.sl eP 35 edgesVA edgesVL edgesVC edgesV3] ∧ v = .tuple #[.agg #[.int .i64 nV, .slice edgesVA edgesVL edgesVC], .int .i64 rbV] ∧ R nV edgesV3 rbV
theorem Ok67.mono {g edgesV edgesV2} {R R' : Int → List (Int × Int) → Int → Prop} (H : Ok67 g edgesV edgesV2 R) (kz : ∀ nV edgesV3 rbV, R nV edgesV3 rbV → R' nV edgesV3 rbV) : Ok67 g edgesV edgesV2 R' :=
  fun h gA gL gC edgesA edgesL edgesC hp => (H h gA gL gC edgesA edgesL edgesC hp).mono fun _ _ ⟨nV, edgesVA, edgesVL, edgesVC, edgesV3, rbV, P, e, q⟩ => ⟨nV, edgesVA, edgesVL, edgesVC, edgesV3, rbV, P, e, kz _ _ _ q⟩
def T67 (g : Int) (edgesV : List (Int × Int)) (edgesV2 : List Int) (R : Int → List (Int × Int) → Int → Prop) : Prop :=
  Ok158 g edgesV edgesV2 (fun raN nV_2 outV branchV pathsV kindV rb =>
  cnd raN
    (cnd (rb != (0 : Int))
      (R 0 ([] : List (Int × Int)) rb)
      (False))
    (cnd (rb != (0 : Int))
      (R 0 ([] : List (Int × Int)) rb)
      (∃ (Iv : Int → Int → List (Int × Int) → Prop) (m : Int → Int → List (Int × Int) → Nat), Iv 0 ((branchV.length : Nat) : Int) ([] : List (Int × Int)) ∧
      ∀ x : Int, ∀ c0 : Int, ∀ c1 : List (Int × Int), Iv x c0 c1 →
      cnd (decide (x < ((pathsV.length : Nat) : Int)))
        (0 ≤ x ∧ x < ((pathsV.length : Nat) : Int) ∧ ∀ x_2 : List Int, pathsV[(Int.toNat x)]? = some x_2 → 0 ≤ (0 : Int) ∧ (0 : Int) < ((x_2.length : Nat) : Int) ∧ ∀ x_3 : Int, x_2[(Int.toNat (0 : Int))]? = some x_3 → 0 ≤ (IntKind.i64.wrap (((x_2.length : Nat) : Int) - (1 : Int))) ∧ (IntKind.i64.wrap (((x_2.length : Nat) : Int) - (1 : Int))) < ((x_2.length : Nat) : Int) ∧ ∀ x_4 : Int, x_2[(Int.toNat (IntKind.i64.wrap (((x_2.length : Nat) : Int) - (1 : Int))))]? = some x_4 → Ok159 nV_2 edgesV outV branchV pathsV kindV (bits .xor .i64 x_3 (1 : Int)) (fun r =>
        Ok159 nV_2 edgesV outV branchV pathsV kindV x_4 (fun r2 =>
        Ok160 branchV r (fun r3 =>
        Ok160 branchV r2 (fun r4 =>
        (c1.length + 1) < 1000000000000 ∧ Iv (IntKind.i64.wrap (x + (1 : Int))) c0 (c1 ++ [(r3, r4)]) ∧ m (IntKind.i64.wrap (x + (1 : Int))) c0 (c1 ++ [(r3, r4)]) < m x c0 c1)))))
        (R c0 c1 0))))
theorem ok67 {g edgesV edgesV2} {R : Int → List (Int × Int) → Int → Prop} (T : T67 g edgesV edgesV2 R) : Ok67 g edgesV edgesV2 R := by
  intro h gA gL gC edgesA edgesL edgesC H
  have Y : Sy h [] h _ := Sy.startM H rfl
  obtain rfl := Y.lenV 0 rfl
  obtain rfl := Y.lenV 1 rfl
  apply calls67
  unfold S67
  unfold T67 at T
  intro hv
  have Y : Sy _ _ hv [_, _, _] := Y.junk _
  clear_value hv
  intro hv2
  have Y : Sy _ _ hv2 [_, _, _, _] := Y.junk _
  clear_value hv2
  refine callX_sy (T _ _ _ _ _ _ _ (Y.pick [0, 1] rfl).hp) (fun _ _ ⟨_, _, _, _, _, _, _, _, _, _, _, _, _, _, _, _, _, _, _, p, _⟩ => p.fr) (allc (fun h => by cases h) (allc (fun h => by cases h) alln)) ?_
  rintro v hv3 ⟨raB_2, raN, nV_2, outVA, outVL, outVC, outH, outV, branchVA, branchVL, branchVC, branchV, pathsVA, pathsVL, pathsVC, pathsH, pathsV, kindV, rb, PP, rfl, T⟩
  cases raN
  · replace T := T.2 rfl
    have Y : Sy _ _ hv3 [_, _, _, _, _, _, _, _] := Y.callV PP ⟨rfl, ⟨rfl, ⟨rfl, ⟨rfl, trivial⟩⟩⟩⟩
    clear PP
    obtain rfl := Y.lenR 5 rfl
    obtain rfl := Y.lenS 6 rfl
    obtain rfl := Y.lenR 7 rfl
    refine ⟨_, rb, rfl, ?_⟩
    refine cnd_imp T (fun T => ?_) (fun T => ?_)
    · intro hv4
      have Y : Sy _ _ hv4 [_, _, _, _, _, _, _, _] := ((Y.stJ 3 rfl _ _).stJ 3 rfl _ _)
      clear_value hv4
      have Y : Sy _ _ _ [_, _, _, _, _, _, _, _, _] := Y.nilS eP 35
      exact ⟨_, _, _, _, _, _, Y.pick [8] rfl, rfl, T⟩
    · refine ⟨raB_2, 0, rfl, ?_⟩
      refine ⟨_, _, _, Y.cellO 4 rfl 3 rfl, ?_⟩
      intro hv5
      have Y : Sy _ _ hv5 [_, _, _, _, _, _, _, _, _] := Y.junk _
      clear_value hv5
      intro hv6
      have Y : Sy _ _ hv6 [_, _, _, _, _, _, _, _, _] := ((Y.stJ 8 rfl _ _).stJ 8 rfl _ _)
      clear_value hv6
      refine ⟨raB_2, 0, rfl, ?_⟩
      refine ⟨_, _, _, Y.cellO 4 rfl 4 rfl, ?_⟩
      have Y : Sy _ _ _ [_, _, _, _, _, _, _, _, _, _] := Y.nilS eP 35
      obtain ⟨Iv, m, T0, T1⟩ := T
      obtain ⟨B, hB, YB⟩ := Y.cut [9] [0, 1, 2, 3, 4, 5, 6, 7, 8] rfl
      obtain ⟨JJ, hJJ⟩ : ∃ JJ : Nat → List Value → Heap → Prop, JJ = (fun k lz h' => ∃ (x : Int) (c0 : Int) (c1A : Option Addr) (c1L c1C : Nat) (c1 : List (Int × Int)), lz = [.int .i64 x, .int .i64 c0, .slice c1A c1L c1C] ∧ Sy h [] h' ([Ck.sl eP 35 c1A c1L c1C c1] ++ B) ∧ Iv x c0 c1 ∧ m x c0 c1 = k) := ⟨_, rfl⟩
      refine ⟨fun lz h' => ∃ k, JJ k lz h', Lm JJ, ?_, ?_⟩
      · subst hJJ hB
        exact ⟨_, _, _, _, _, _, _, rfl, YB, T0, rfl⟩
      · clear YB T0 Y
        intro x c0 c1A c1L c1C hv7 hI
        obtain ⟨k, hI, hm⟩ := loopIn hI
        subst hJJ hB
        obtain ⟨x, c0, c1A, c1L, c1C, c1, e, Y, T, rfl⟩ := hI
        cases e
        obtain rfl := Y.lenS 0 rfl
        replace T := T1 x c0 c1 T
        have Y : Sy _ _ _ [_, _, _, _, _, _, _, _, _, _] := Y
        refine cnd_imp T (fun T => ?_) (fun T => ?_)
        · obtain ⟨q, q_2, T⟩ := T
          obtain ⟨b_2, hb, ho, x_2, hx, r_2, hr⟩ := Y.atR 8 rfl q q_2
          refine ⟨b_2, 0, hb, q, q_2, ?_⟩
          replace T := T x_2 hx
          refine ⟨_, _, _, Y.cellR 8 rfl hb hr hx, ?_⟩
          have Y0 := Y
          have F : Fr [] hv7 hv7 := Fr.refl _ _
          obtain ⟨q_3, q_4, T⟩ := T
          obtain ⟨b_3, hb_2, ho_2, x_3, hx_2⟩ := Y0.atRow 8 rfl hr hx q_3 q_4
          refine ⟨b_3, 0, hb_2, q_3, q_4, ?_⟩
          replace T := T x_3 hx_2
          refine ⟨_, Y0.cellRow 8 rfl hr hx hb_2 (t := 0) hx_2 rfl, ?_⟩
          obtain ⟨q_5, q_6, T⟩ := T
          obtain ⟨b_4, hb_3, ho_3, x_4, hx_3⟩ := Y0.atRow 8 rfl hr hx q_5 q_6
          refine ⟨b_4, 0, hb_3, q_5, q_6, ?_⟩
          replace T := T x_4 hx_3
          refine ⟨_, Y0.cellRow 8 rfl hr hx hb_3 (t := 0) hx_3 rfl, ?_⟩
          refine callX_sy (T _ _ _ _ _ _ _ _ _ _ _ _ _ _ _ _ _ (((((Y.turn 5 rfl To.obvob).turn 6 rfl To.rowsv).turn 7 rfl To.slvw).turn 8 rfl To.rowsv).pick [5, 1, 6, 7, 8] rfl).hp) (fun _ _ ⟨_, p, _⟩ => p.fr) (allc (fun h => by cases h) (allc (fun h => by cases h) alln)) ?_
          rintro v2 hv8 ⟨r, PP, rfl, T⟩
          have F : Fr _ _ hv8 := F.trans PP.fr.nil
          have fshv8 := F.size
          have Y : Sy _ _ hv8 [_, _, _, _, _, _, _, _, _, _] := Y.gr PP.fr
          clear PP
          refine ⟨r, rfl, ?_⟩
          refine ⟨F, ?_⟩
          refine callX_sy (T _ _ _ _ _ _ _ _ _ _ _ _ _ _ _ _ _ (((((Y.turn 5 rfl To.obvob).turn 6 rfl To.rowsv).turn 7 rfl To.slvw).turn 8 rfl To.rowsv).pick [5, 1, 6, 7, 8] rfl).hp) (fun _ _ ⟨_, p, _⟩ => p.fr) (allc (fun h => by cases h) (allc (fun h => by cases h) alln)) ?_
          rintro v3 hv9 ⟨r2, PP, rfl, T⟩
          have F : Fr _ _ hv9 := F.trans PP.fr.nil
          have fshv9 := F.size
          have Y : Sy _ _ hv9 [_, _, _, _, _, _, _, _, _, _] := Y.gr PP.fr
          clear PP
          refine ⟨r2, rfl, ?_⟩
          refine ⟨F, ?_⟩
          have Y0 := Y
          have F : Fr [] hv9 hv9 := Fr.refl _ _
          refine ⟨raB_2, 0, rfl, ?_⟩
          refine ⟨_, _, _, Y0.cellO 5 rfl 3 rfl, ?_⟩
          refine ⟨raB_2, 0, rfl, ?_⟩
          refine ⟨_, _, _, Y0.cellO 5 rfl 3 rfl, ?_⟩
          refine callX_sy (T _ _ _ _ ((Y.turn 7 rfl To.slvw).pick [7] rfl).hp) (fun _ _ ⟨_, p, _⟩ => p.fr) (allc (fun h => by cases h) (allc (fun h => by cases h) alln)) ?_
          rintro v4 hv10 ⟨r3, PP, rfl, T⟩
          have F : Fr _ _ hv10 := F.trans PP.fr.nil
          have fshv10 := F.size
          have Y : Sy _ _ hv10 [_, _, _, _, _, _, _, _, _, _] := Y.gr PP.fr
          clear PP
          refine ⟨r3, rfl, ?_⟩
          refine ⟨F, ?_⟩
          refine callX_sy (T _ _ _ _ ((Y.turn 7 rfl To.slvw).pick [7] rfl).hp) (fun _ _ ⟨_, p, _⟩ => p.fr) (allc (fun h => by cases h) (allc (fun h => by cases h) alln)) ?_
          rintro v5 hv11 ⟨r4, PP, rfl, T⟩
          have F : Fr _ _ hv11 := F.trans PP.fr.nil
          have fshv11 := F.size
          have Y : Sy _ _ hv11 [_, _, _, _, _, _, _, _, _, _] := Y.gr PP.fr
          clear PP
          refine ⟨r4, rfl, ?_⟩
          refine ⟨F, ?_⟩
          intro hv12
          have Y : Sy _ _ hv12 [_, _, _, _, _, _, _, _, _, _, _] := Y.junk _
          have F : Fr _ _ hv12 := F.pushr _
          have fshv12 := F.size
          clear_value hv12
          refine ⟨F, ?_⟩
          obtain ⟨q_7, T⟩ := T
          refine ⟨_, Y.ownS 0 rfl, (allc (Y.nJ 0 10 rfl rfl rfl) (allc (Y.nJ 0 9 rfl rfl rfl) (allc (Y.nJ 0 4 rfl rfl rfl) alln))), by first | exact appB q_7 (by decide) | omega, by first | exact appM q_7 | (simp [maxLen]; omega), ?_⟩
          intro sA sC hv13 ow fA gA gB
          have Y : Sy _ _ hv13 [_, _, _, _, _, _, _, _, _, _, _] := Y.appS 0 rfl ([(r3, r4)] : List (Int × Int)) ow fA gA rfl rfl
          intro hv14
          have Y : Sy _ _ hv14 [_, _, _, _, _, _, _, _, _, _, _] := (Y.stJ 9 rfl _ _)
          clear_value hv14
          exact loopBack hm ⟨_, _, _, _, _, _, rfl, Y.pick [0, 1, 2, 3, 4, 5, 6, 7, 8, 9] rfl, T.1, rfl⟩ T.2
        · intro hv15
          have Y : Sy _ _ hv15 [_, _, _, _, _, _, _, _, _, _] := ((Y.stJ 4 rfl _ _).stJ 4 rfl _ _)
          clear_value hv15
          exact ⟨_, _, _, _, _, _, Y.pick [0] rfl, rfl, T⟩
  · replace T := T.1 rfl
    have Y : Sy _ _ hv3 [_, _, _, _] := Y.gr PP.fr
    clear PP
    refine ⟨_, rb, rfl, ?_⟩
    refine cnd_imp T (fun T => ?_) (fun T => ?_)
    · intro hv4
      have Y : Sy _ _ hv4 [_, _, _, _] := ((Y.stJ 3 rfl _ _).stJ 3 rfl _ _)
      clear_value hv4
      have Y : Sy _ _ _ [_, _, _, _, _] := Y.nilS eP 35
      exact ⟨_, _, _, _, _, _, Y.pick [4] rfl, rfl, T⟩
    · exact T.elim
end Go.Proofs.Ytmcloipjlihhlaa.N
