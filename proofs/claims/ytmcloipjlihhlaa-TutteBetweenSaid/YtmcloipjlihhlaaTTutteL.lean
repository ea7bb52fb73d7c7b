/- Functions: what is left to be shown of each, over memory and without: printed by program, tied to the loaded functions by the kernel. Conditions: none. -/
import Derived.Test.YtmcloipjlihhlaaSEnv
import Derived.Test.YtmcloipjlihhlaaYMore
import Derived.Test.YtmcloipjlihhlaaTTutte
namespace Go.Proofs.Ytmcloipjlihhlaa.N
open Go.Proofs.Ytmcloipjlihhlaa
open Go.X
set_option maxRecDepth 100000
set_option linter.unusedVariables false
set_option linter.unusedSimpArgs false
set_option maxHeartbeats 2000000

/-- tracery/maker.Path -/
def Ok136 (n : Int) (R : Int → List (Int × Int) → Int → Prop) : Prop :=
  ∀ (h : Heap), Hp h [] → CallsH Try.prog 136 #[.int .i64 n] h fun v h' => ∃ (nV : Int) (edgesVA : Option Addr) (edgesVL edgesVC : Nat) (edgesV : List (Int × Int)) (rbV : Int), Sy h [] h' [Ck.sl eP 35 edgesVA edgesVL edgesVC edgesV] ∧ v = .tuple #[.agg #[.int .i64 nV, .slice edgesVA edgesVL edgesVC], .int .i64 rbV] ∧ R nV edgesV rbV
theorem Ok136.mono {n} {R R' : Int → List (Int × Int) → Int → Prop} (H : Ok136 n R) (kz : ∀ nV edgesV rbV, R nV edgesV rbV → R' nV edgesV rbV) : Ok136 n R' :=
  fun h  hp => (H h  hp).mono fun _ _ ⟨nV, edgesVA, edgesVL, edgesVC, edgesV, rbV, P, e, q⟩ => ⟨nV, edgesVA, edgesVL, edgesVC, edgesV, rbV, P, e, kz _ _ _ q⟩

/-- tracery/tracerylaw28.begun -/
def S42  (h : Heap) (R : Value → Heap → Prop) : Prop :=
  callX Try.prog 136 #[.int .i64 3] h [] fun v hv =>
  ∃ ra : Int, ∃ (raA : Option Addr) (raL raC : Nat), ∃ rb : Int, v = .tuple #[.agg #[.int .i64 ra, .slice raA raL raC], .int .i64 rb] ∧
  let hv2 : Heap := hv.push (.cells #[.int .i64 0, .slice none 0 0] 26)
  let hv3 : Heap := hset (hset hv2 hv.size 0 (.int .i64 ra)) hv.size (0 + 1) (.slice raA raL raC)
  let hv4 : Heap := hv3.push (.cells #[.float .f64 0, .float .f64 0, .float .f64 4621256167635550208, .float .f64 4621256167635550208, .float .f64 4611686018427387904, .float .f64 4616189618054758400] 56)
  let hv5 : Heap := hv4.push (.cells #[.bool true, .bool false, .bool true] 4)
  callX Try.prog 46 #[.agg #[.int .i64 ra, .slice raA raL raC], .slice (some (⟨hv3.size, 0, none⟩ : Addr)) 3 3, .slice (some (⟨hv4.size, 0, none⟩ : Addr)) 3 3, .int .i64 1] hv5 [hv.size] fun v2 hv6 =>
  ∃ (raA2 : Option Addr) (raL2 raC2 : Nat), ∃ rb2 : Int, v2 = .tuple #[.slice raA2 raL2 raC2, .int .i64 rb2] ∧
  let hv7 : Heap := hv6.push (.cells #[.float .f64 4602678819172646912, .float .f64 4609434218613702656] 56)
  callX Try.prog 48 #[.slice (some (⟨hv6.size, 0, none⟩ : Addr)) 1 1, .float .f64 4607182418800017408] hv7 [hv.size] fun v3 hv8 =>
  ∃ (raA3 : Option Addr) (raL3 raC3 : Nat), ∃ rb3 : Int, v3 = .tuple #[.slice raA3 raL3 raC3, .int .i64 rb3] ∧
  let hv9 : Heap := hv8.push (.cells #[.float .f64 4607182418800017408, .float .f64 4611686018427387904] 56)
  let hv10 : Heap := hv9.push (.cells #[.float .f64 0, .float .f64 0] 56)
  callX Try.prog 51 #[.slice (some (⟨hv8.size, 0, none⟩ : Addr)) 1 1, .slice (some (⟨hv9.size, 0, none⟩ : Addr)) 1 1] hv10 [hv.size] fun v4 hv11 =>
  ∃ ra2 : Nat, ∃ rb4 : Int, v4 = .tuple #[.float .f64 ra2, .int .i64 rb4] ∧
  cnd (((raL2 : Nat) : Int) == (3 : Int))
    (∃ b o, raA2 = some ⟨b, o, none⟩ ∧ 0 ≤ (1 : Int) ∧ (1 : Int) < (raL2 : Nat) ∧ ∃ x : Nat, hcell hv11 b (o + (Int.toNat (1 : Int)) * 2) = some (.float .f64 x) ∧ ∃ x2 : Nat, hcell hv11 b ((o + (Int.toNat (1 : Int)) * 2) + 1) = some (.float .f64 x2) ∧ cnd ((FloatKind.f64.format.order x 4607182418800017408 == some .eq) && (FloatKind.f64.format.order x2 4611686018427387904 == some .eq))
      (cnd (rb2 == (0 : Int))
        (cnd (((raL3 : Nat) : Int) == (1 : Int))
          (∃ b2 o2, raA3 = some ⟨b2, o2, none⟩ ∧ 0 ≤ (0 : Int) ∧ (0 : Int) < (raL3 : Nat) ∧ ∃ x3 : Int, hcell hv11 b2 (o2 + (Int.toNat (0 : Int)) * 2) = some (.int .i64 x3) ∧ ∃ x4 : Int, hcell hv11 b2 ((o2 + (Int.toNat (0 : Int)) * 2) + 1) = some (.int .i64 x4) ∧ cnd ((x3 == (0 : Int)) && (x4 == (2 : Int)))
            (cnd (rb3 == (0 : Int))
              (cnd ((FloatKind.f64).format.order ra2 4611686018427387904 == some .eq)
                (R (.bool (rb4 == (0 : Int))) hv11)
                (R (.bool false) hv11))
              (R (.bool false) hv11))
            (R (.bool false) hv11))
          (R (.bool false) hv11))
        (R (.bool false) hv11))
      (R (.bool false) hv11))
    (R (.bool false) hv11)

theorem calls42 {h : Heap} {R : Value → Heap → Prop}  (H : S42  h R) : CallsH Try.prog 42 #[] h R := by
  have e : S42  h R = FX (envX [1] 75) { loops := [], joins := [], blocks := [], draws := [] } Try.f42 (Try.f42.body.getD .skip) [] h R := by kernel_rfl
  exact calls_of_FX (envX_ok _ _) Try.func42 (by kernel_rfl) (by kernel_rfl) (by kernel_rfl) (e ▸ H)

/-- tracery/tracerylaw28.begun -/
def Ok42  (R : Bool → Prop) : Prop :=
  ∀ (h : Heap), Hp h [] → CallsH Try.prog 42 #[] h fun v h' => ∃ (rV : Bool), Sy h [] h' [] ∧ v = .bool rV ∧ R rV
theorem Ok42.mono {R R' : Bool → Prop} (H : Ok42  R) (kz : ∀ rV, R rV → R' rV) : Ok42  R' :=
  fun h  hp => (H h  hp).mono fun _ _ ⟨rV, P, e, q⟩ => ⟨rV, P, e, kz _ q⟩

def T42  (R : Bool → Prop) : Prop :=
  Ok136 3 (fun ra ra_2 rb =>
  Ok46 ra ra_2 ([(0, 0), (4621256167635550208, 4621256167635550208), (4611686018427387904, 4616189618054758400)] : List (Nat × Nat)) ([true, false, true] : List Bool) 1 (fun ra_3 rb2 =>
  Ok48 ([(4602678819172646912, 4609434218613702656)] : List (Nat × Nat)) 4607182418800017408 (fun ra_4 rb3 =>
  Ok51 ([(4607182418800017408, 4611686018427387904)] : List (Nat × Nat)) ([(0, 0)] : List (Nat × Nat)) (fun ra2 rb4 =>
  cnd (((ra_3.length : Nat) : Int) == (3 : Int))
    (0 ≤ (1 : Int) ∧ (1 : Int) < ((ra_3.length : Nat) : Int) ∧ ∀ ra_5 : (Nat × Nat), ra_3[(Int.toNat (1 : Int))]? = some ra_5 → cnd ((FloatKind.f64.format.order ra_5.1 4607182418800017408 == some .eq) && (FloatKind.f64.format.order ra_5.2 4611686018427387904 == some .eq))
      (cnd (rb2 == (0 : Int))
        (cnd (((ra_4.length : Nat) : Int) == (1 : Int))
          (0 ≤ (0 : Int) ∧ (0 : Int) < ((ra_4.length : Nat) : Int) ∧ ∀ ra_6 : (Int × Int), ra_4[(Int.toNat (0 : Int))]? = some ra_6 → cnd ((ra_6.1 == (0 : Int)) && (ra_6.2 == (2 : Int)))
            (cnd (rb3 == (0 : Int))
              (cnd ((FloatKind.f64).format.order ra2 4611686018427387904 == some .eq)
                (R (rb4 == (0 : Int)))
                (R false))
              (R false))
            (R false))
          (R false))
        (R false))
      (R false))
    (R false)))))

theorem ok42 {R : Bool → Prop} (T : T42  R) : Ok42  R := by
  intro h  H
  have Y : Sy h [] h _ := Sy.startM H rfl
  apply calls42
  unfold S42
  unfold T42 at T
  refine callX_sy (T _ (Hp.nil _)) (fun _ _ ⟨_, _, _, _, _, _, p, _⟩ => p.fr) alln ?_
  rintro v hv ⟨ra, raA, raL, raC, ra_2, rb, PP, rfl, T⟩
  have Y : Sy _ _ hv [_] := Y.callV PP ⟨rfl, trivial⟩
  clear PP
  obtain rfl := Y.lenS 0 rfl
  refine ⟨ra, _, _, _, rb, rfl, ?_⟩
  intro hv2
  have Y : Sy _ _ hv2 [_, _] := Y.junk _
  clear_value hv2
  intro hv3
  have Y : Sy _ _ hv3 [_, _] := ((Y.stJ 1 rfl _ _).stJ 1 rfl _ _)
  clear_value hv3
  intro hv4
  have Y : Sy _ _ hv4 [_, _, _] := Y.litS (E := eFF) (ty := 56) ([(0, 0), (4621256167635550208, 4621256167635550208), (4611686018427387904, 4616189618054758400)] : List (Nat × Nat)) rfl (by simp [maxLen])
  clear_value hv4
  intro hv5
  have Y : Sy _ _ hv5 [_, _, _, _] := Y.litS (E := eB) (ty := 4) ([true, false, true] : List Bool) rfl (by simp [maxLen])
  clear_value hv5
  refine callX_sy (T _ _ _ _ _ _ _ _ _ _ ((((Y.turn 0 rfl To.slvw).turn 2 rfl To.slvw).turn 3 rfl To.slvw).pick [0, 2, 3] rfl).hp) (fun _ _ ⟨_, _, _, _, _, p, _⟩ => p.fr) (allc (fun h => by cases h) alln) ?_
  rintro v2 hv6 ⟨raA2, raL2, raC2, ra_3, rb2, PP, rfl, T⟩
  have Y : Sy _ _ hv6 [_, _, _, _, _] := Y.callV PP ⟨rfl, trivial⟩
  clear PP
  obtain rfl := Y.lenS 4 rfl
  refine ⟨_, _, _, rb2, rfl, ?_⟩
  intro hv7
  have Y : Sy _ _ hv7 [_, _, _, _, _, _] := Y.litS (E := eFF) (ty := 56) ([(4602678819172646912, 4609434218613702656)] : List (Nat × Nat)) rfl (by simp [maxLen])
  clear_value hv7
  refine callX_sy (T _ _ _ _ ((Y.turn 5 rfl To.slvw).pick [5] rfl).hp) (fun _ _ ⟨_, _, _, _, _, p, _⟩ => p.fr) (allc (fun h => by cases h) alln) ?_
  rintro v3 hv8 ⟨raA3, raL3, raC3, ra_4, rb3, PP, rfl, T⟩
  have Y : Sy _ _ hv8 [_, _, _, _, _, _, _] := Y.callV PP ⟨rfl, trivial⟩
  clear PP
  obtain rfl := Y.lenS 6 rfl
  refine ⟨_, _, _, rb3, rfl, ?_⟩
  intro hv9
  have Y : Sy _ _ hv9 [_, _, _, _, _, _, _, _] := Y.litS (E := eFF) (ty := 56) ([(4607182418800017408, 4611686018427387904)] : List (Nat × Nat)) rfl (by simp [maxLen])
  clear_value hv9
  intro hv10
  have Y : Sy _ _ hv10 [_, _, _, _, _, _, _, _, _] := Y.litS (E := eFF) (ty := 56) ([(0, 0)] : List (Nat × Nat)) rfl (by simp [maxLen])
  clear_value hv10
  refine callX_sy (T _ _ _ _ _ _ _ (((Y.turn 7 rfl To.slvw).turn 8 rfl To.slvw).pick [7, 8] rfl).hp) (fun _ _ ⟨_, _, p, _⟩ => p.fr) (allc (fun h => by cases h) alln) ?_
  rintro v4 hv11 ⟨ra2, rb4, PP, rfl, T⟩
  have Y : Sy _ _ hv11 [_, _, _, _, _, _, _, _, _] := Y.gr PP.fr
  clear PP
  refine ⟨ra2, rb4, rfl, ?_⟩
  refine cnd_imp T (fun T => ?_) (fun T => ?_)
  · obtain ⟨q, q_2, T⟩ := T
    obtain ⟨b_2, hb, ho, ra_5, hx⟩ := Y.atS 4 rfl q q_2
    refine ⟨b_2, 0, hb, q, q_2, ?_⟩
    replace T := T ra_5 hx
    refine ⟨_, Y.cellS 4 rfl hb (t := 0) hx rfl, ?_⟩
    refine ⟨_, Y.cellS 4 rfl hb (t := 1) hx rfl, ?_⟩
    refine cnd_imp T (fun T => ?_) (fun T => ?_)
    · refine cnd_imp T (fun T => ?_) (fun T => ?_)
      · refine cnd_imp T (fun T => ?_) (fun T => ?_)
        · obtain ⟨q_3, q_4, T⟩ := T
          obtain ⟨b_3, hb_2, ho_2, ra_6, hx_2⟩ := Y.atS 6 rfl q_3 q_4
          refine ⟨b_3, 0, hb_2, q_3, q_4, ?_⟩
          replace T := T ra_6 hx_2
          refine ⟨_, Y.cellS 6 rfl hb_2 (t := 0) hx_2 rfl, ?_⟩
          refine ⟨_, Y.cellS 6 rfl hb_2 (t := 1) hx_2 rfl, ?_⟩
          refine cnd_imp T (fun T => ?_) (fun T => ?_)
          · refine cnd_imp T (fun T => ?_) (fun T => ?_)
            · refine cnd_imp T (fun T => ?_) (fun T => ?_)
              · exact ⟨_, Y.pick [] rfl, rfl, T⟩
              · exact ⟨_, Y.pick [] rfl, rfl, T⟩
            · exact ⟨_, Y.pick [] rfl, rfl, T⟩
          · exact ⟨_, Y.pick [] rfl, rfl, T⟩
        · exact ⟨_, Y.pick [] rfl, rfl, T⟩
      · exact ⟨_, Y.pick [] rfl, rfl, T⟩
    · exact ⟨_, Y.pick [] rfl, rfl, T⟩
  · exact ⟨_, Y.pick [] rfl, rfl, T⟩

/-- tracery/tracerylaw28.TutteAll -/
def S6 (g : Int) (gA : Option Addr) (gL gC : Nat) (usA : Option Addr) (usL usC : Nat) (heldA : Option Addr) (heldL heldC : Nat) (k : Int) (scale : Int) (h : Heap) (R : Value → Heap → Prop) : Prop :=
  let hv : Heap := h.push (.cells #[.int .i64 g, .slice gA gL gC] 26)
  callX Try.prog 42 #[] hv [h.size] fun v hv2 =>
  ∃ r : Bool, v = .bool r ∧
  cnd (!r)
    (R (.bool false) hv2)
    (let K := fun (hv4 : Heap) =>
      (callX Try.prog 44 #[.slice usA usL usC] hv4 [h.size] fun v3 hv5 =>
      ∃ (rA : Option Addr) (rL rC : Nat), v3 = .slice rA rL rC ∧
      ∃ xs : List Value, Reads hv5 2 rA rL xs ∧ (rA = none → rC = 0) ∧ (∀ v ∈ xs, v.oneCell' = true) ∧ ∃ old, Own hv5 56 2 none 0 0 old ∧ (∀ b ∈ ([h.size] : List Nat), b ∉ blkOf none) ∧ (0 + rL) * 16 ≤ 140737488355328 ∧ (0 + rL) ≤ maxLen ∧
      ∀ sA sC hv6, Own hv6 56 2 sA (0 + rL) sC (old ++ xs) → Fr (blkOf none) hv5 hv6 → ((sA = none ∧ sC = 0) ∨ ∃ g, sA = some ⟨g, 0, none⟩ ∧ hv5.size ≤ g) →
      let hv7 : Heap := hv6.push (.cells #[.float .f64 4619567317775286272, .float .f64 0] 56)
      ∃ old2, Own hv7 56 2 sA (0 + rL) sC old2 ∧ (∀ b ∈ ([hv6.size, h.size] : List Nat), b ∉ blkOf sA) ∧ ((0 + rL) + 1) * 16 ≤ 140737488355328 ∧ ((0 + rL) + 1) ≤ maxLen ∧
      ∀ sA2 sC2 hv8, Own hv8 56 2 sA2 ((0 + rL) + 1) sC2 (old2 ++ [.float .f64 4619567317775286272, .float .f64 0]) → Fr (blkOf sA) hv7 hv8 → ((sA2 = sA ∧ sC2 = sC) ∨ ∃ g, sA2 = some ⟨g, 0, none⟩ ∧ hv7.size ≤ g) →
      0 ≤ ((rL : Nat) : Int) ∧ ((rL : Nat) : Int) ≤ (sC2 : Nat) ∧ callE Try.prog 45 #[.int .u64 scale] fun v4 =>
      ∃ r3 : Nat, v4 = .float .f64 r3 ∧
      ∃ (Iv : List Value → Heap → Prop) (m : List Value → Heap → Nat), Iv [.int .i64 0] hv8 ∧ -- loop 0: ['turn']
      ∀ turn : Int, ∀ hv9, Iv [.int .i64 turn] hv9 →
      cnd (decide (turn < (2 : Int)))
        (callX Try.prog 46 #[.agg #[.int .i64 g, .slice gA gL gC], .slice (if sC2 = 0 then sA2 else Option.map (fun addr => Addr.add addr (0 * 2)) sA2) ((Int.toNat ((rL : Nat) : Int)) - 0) (sC2 - 0), .slice heldA heldL heldC, .int .i64 k] hv9 [h.size] fun v5 hv10 =>
        ∃ (raA : Option Addr) (raL raC : Nat), ∃ rb : Int, v5 = .tuple #[.slice raA raL raC, .int .i64 rb] ∧
        callX Try.prog 47 #[.agg #[.int .i64 g, .slice gA gL gC], .slice rA rL rC, .slice heldA heldL heldC, .int .i64 k] hv10 [h.size] fun v6 hv11 =>
        ∃ (raA2 : Option Addr) (raL2 raC2 : Nat), ∃ rb2 : Int, v6 = .tuple #[.slice raA2 raL2 raC2, .int .i64 rb2] ∧
        callX Try.prog 48 #[.slice (if sC2 = 0 then sA2 else Option.map (fun addr => Addr.add addr (0 * 2)) sA2) ((Int.toNat ((rL : Nat) : Int)) - 0) (sC2 - 0), .float .f64 r3] hv11 [h.size] fun v7 hv12 =>
        ∃ (raA3 : Option Addr) (raL3 raC3 : Nat), ∃ rb3 : Int, v7 = .tuple #[.slice raA3 raL3 raC3, .int .i64 rb3] ∧
        callX Try.prog 49 #[.slice rA rL rC, .float .f64 r3] hv12 [h.size] fun v8 hv13 =>
        ∃ (raA4 : Option Addr) (raL4 raC4 : Nat), ∃ rb4 : Int, v8 = .tuple #[.slice raA4 raL4 raC4, .int .i64 rb4] ∧
        let K2 := fun (hv16 : Heap) =>
          (R (.bool false) hv16)
        cnd (rb != rb2)
          (K2 hv13)
          (callX Try.prog 50 #[.slice raA raL raC, .slice raA2 raL2 raC2] hv13 [h.size] fun v9 hv14 =>
          ∃ r4 : Bool, v9 = .bool r4 ∧
          cnd (!r4)
            (K2 hv14)
            (cnd (rb3 != rb4)
              (K2 hv14)
              (cnd (((raL3 : Nat) : Int) != ((raL4 : Nat) : Int))
                (K2 hv14)
                (callX Try.prog 50 #[.slice (if sC2 = 0 then sA2 else Option.map (fun addr => Addr.add addr (0 * 2)) sA2) ((Int.toNat ((rL : Nat) : Int)) - 0) (sC2 - 0), .slice rA rL rC] hv14 [h.size] fun v10 hv15 =>
                ∃ r5 : Bool, v10 = .bool r5 ∧
                cnd (!r5)
                  (K2 hv15)
                  (0 ≤ (IntKind.i64.wrap (((rL : Nat) : Int) + (1 : Int))) ∧ (IntKind.i64.wrap (((rL : Nat) : Int) + (1 : Int))) ≤ ((sC2 - 0) : Nat) ∧ ∃ b o, (if (sC2 - 0) = 0 then (if sC2 = 0 then sA2 else Option.map (fun addr => Addr.add addr (0 * 2)) sA2) else Option.map (fun addr => Addr.add addr (0 * 2)) (if sC2 = 0 then sA2 else Option.map (fun addr => Addr.add addr (0 * 2)) sA2)) = some ⟨b, o, none⟩ ∧ 0 ≤ ((rL : Nat) : Int) ∧ ((rL : Nat) : Int) < (((Int.toNat (IntKind.i64.wrap (((rL : Nat) : Int) + (1 : Int)))) - 0) : Nat) ∧ ∃ x : Nat, hcell hv15 b (o + (Int.toNat ((rL : Nat) : Int)) * 2) = some (.float .f64 x) ∧ cnd ((FloatKind.f64).format.order x 4619567317775286272 != some .eq)
                    (R (.bool false) hv15)
                    (∃ (Iv2 : List Value → Heap → Prop) (m2 : List Value → Heap → Nat), Iv2 [.int .i64 0] hv15 ∧ -- loop 2: ['n']
                    ∀ n : Int, ∀ hv17, Iv2 [.int .i64 n] hv17 →
                    cnd (decide (n < ((raL3 : Nat) : Int)))
                      (∃ b2 o2, raA3 = some ⟨b2, o2, none⟩ ∧ 0 ≤ n ∧ n < (raL3 : Nat) ∧ ∃ x2 : Int, hcell hv17 b2 (o2 + (Int.toNat n) * 2) = some (.int .i64 x2) ∧ ∃ x3 : Int, hcell hv17 b2 ((o2 + (Int.toNat n) * 2) + 1) = some (.int .i64 x3) ∧ ∃ b3 o3, raA4 = some ⟨b3, o3, none⟩ ∧ 0 ≤ n ∧ n < (raL4 : Nat) ∧ ∃ x4 : Int, hcell hv17 b3 (o3 + (Int.toNat n) * 2) = some (.int .i64 x4) ∧ ∃ x5 : Int, hcell hv17 b3 ((o3 + (Int.toNat n) * 2) + 1) = some (.int .i64 x5) ∧ cnd (!((x2 == x4) && (x3 == x5)))
                        (R (.bool false) hv17)
                        (Iv2 [.int .i64 (IntKind.i64.wrap (n + (1 : Int)))] hv17 ∧ m2 [.int .i64 (IntKind.i64.wrap (n + (1 : Int)))] hv17 < m2 [.int .i64 n] hv17))
                      (callX Try.prog 51 #[.slice (if sC2 = 0 then sA2 else Option.map (fun addr => Addr.add addr (0 * 2)) sA2) ((Int.toNat ((rL : Nat) : Int)) - 0) (sC2 - 0), .slice raA raL raC] hv17 [h.size] fun v11 hv18 =>
                      ∃ ra : Nat, ∃ rb5 : Int, v11 = .tuple #[.float .f64 ra, .int .i64 rb5] ∧
                      callX Try.prog 52 #[.slice rA rL rC, .slice raA2 raL2 raC2] hv18 [h.size] fun v12 hv19 =>
                      ∃ ra2 : Nat, ∃ rb6 : Int, v12 = .tuple #[.float .f64 ra2, .int .i64 rb6] ∧
                      cnd (rb5 != rb6)
                        (R (.bool false) hv19)
                        (callX Try.prog 53 #[.float .f64 ra, .float .f64 ra2] hv19 [h.size] fun v13 hv20 =>
                        ∃ r6 : Bool, v13 = .bool r6 ∧
                        cnd (!r6)
                          (R (.bool false) hv20)
                          (∃ (Iv3 : List Value → Heap → Prop) (m3 : List Value → Heap → Nat), Iv3 [.int .i64 0] hv20 ∧ -- loop 4: ['n']
                          ∀ n2 : Int, ∀ hv21, Iv3 [.int .i64 n2] hv21 →
                          cnd (decide (n2 < ((raL : Nat) : Int)))
                            (∃ b4 o4, raA = some ⟨b4, o4, none⟩ ∧ 0 ≤ n2 ∧ n2 < (raL : Nat) ∧ b4 ≠ h.size ∧ (∃ u, hcell hv21 b4 (o4 + (Int.toNat n2) * 2) = some u) ∧ hfree hv21 b4 (o4 + (Int.toNat n2) * 2) = true ∧ (∃ u, hcell hv21 b4 ((o4 + (Int.toNat n2) * 2) + 1) = some u) ∧ hfree hv21 b4 ((o4 + (Int.toNat n2) * 2) + 1) = true ∧ let hv22 : Heap := hset (hset hv21 b4 (o4 + (Int.toNat n2) * 2) (.float .f64 13840687554816376832)) b4 ((o4 + (Int.toNat n2) * 2) + 1) (.float .f64 13840687554816376832)
                            Iv3 [.int .i64 (IntKind.i64.wrap (n2 + (1 : Int)))] hv22 ∧ m3 [.int .i64 (IntKind.i64.wrap (n2 + (1 : Int)))] hv22 < m3 [.int .i64 n2] hv21)
                            (Iv [.int .i64 (IntKind.i64.wrap (turn + (1 : Int)))] hv21 ∧ m [.int .i64 (IntKind.i64.wrap (turn + (1 : Int)))] hv21 < m [.int .i64 turn] hv9)))))))))))
        (R (.bool true) hv9))
    callX Try.prog 43 #[.agg #[.int .i64 g, .slice gA gL gC]] hv2 [h.size] fun v2 hv3 =>
    ∃ r2 : Bool, v2 = .bool r2 ∧
    cnd r2
      (cnd (decide (g > (60 : Int)))
        (R (.bool true) hv3)
        (cnd (decide (((gL : Nat) : Int) > (60 : Int)))
          (R (.bool true) hv3)
          (cnd (decide (((usL : Nat) : Int) > (600 : Int)))
            (R (.bool true) hv3)
            (cnd (decide (((heldL : Nat) : Int) > (300 : Int)))
              (R (.bool true) hv3)
              (cnd (decide (k > (40 : Int)))
                (cnd (decide (k ≤ (4096 : Int)))
                  (R (.bool true) hv3)
                  (K hv3))
                (K hv3))))))
      (cnd (decide (((usL : Nat) : Int) > (600 : Int)))
        (R (.bool true) hv3)
        (cnd (decide (((heldL : Nat) : Int) > (300 : Int)))
          (R (.bool true) hv3)
          (cnd (decide (k > (40 : Int)))
            (cnd (decide (k ≤ (4096 : Int)))
              (R (.bool true) hv3)
              (K hv3))
            (K hv3)))))

theorem calls6 {h : Heap} {R : Value → Heap → Prop} (g : Int) (gA : Option Addr) (gL gC : Nat) (usA : Option Addr) (usL usC : Nat) (heldA : Option Addr) (heldL heldC : Nat) (k : Int) (scale : Int) (H : S6 g gA gL gC usA usL usC heldA heldL heldC k scale h R) : CallsH Try.prog 6 #[.agg #[.int .i64 g, .slice gA gL gC], .slice usA usL usC, .slice heldA heldL heldC, .int .i64 k, .int .u64 scale] h R := by
  have e : S6 g gA gL gC usA usL usC heldA heldL heldC k scale h R = FX (envX [5, 67] 192) { loops := [(0, ⟨[2, 3, 5, 11, 12, 13], [14], [5], []⟩), (2, ⟨[2, 3, 5, 11, 12, 13, 14, 15, 17, 19, 21], [23], [5], []⟩), (4, ⟨[2, 3, 5, 11, 12, 13, 14, 15], [28], [5], []⟩)], joins := [], blocks := [], draws := [(20, ⟨9, false⟩)] } Try.f6 (Try.f6.body.getD .skip) [.agg #[.int .i64 g, .slice gA gL gC], .slice usA usL usC, .slice heldA heldL heldC, .int .i64 k, .int .u64 scale] h R := by kernel_rfl
  exact calls_of_FX (envX_ok _ _) Try.func6 (by kernel_rfl) (by kernel_rfl) (by kernel_rfl) (e ▸ H)

/-- tracery/tracerylaw28.TutteAll -/
def Ok6 (g : Int) (edgesV : List (Int × Int)) (usV : List Int) (heldV : List Bool) (k : Int) (scale : Int) (R : Bool → Prop) : Prop :=
  ∀ (h : Heap) (gA : Option Addr) (gL gC : Nat) (usA : Option Addr) (usL usC : Nat) (heldA : Option Addr) (heldL heldC : Nat), Hp h [Ck.vw eP gA gL gC edgesV, Ck.vw (eK .u64) usA usL usC usV, Ck.vw eB heldA heldL heldC heldV] → CallsH Try.prog 6 #[.agg #[.int .i64 g, .slice gA gL gC], .slice usA usL usC, .slice heldA heldL heldC, .int .i64 k, .int .u64 scale] h fun v h' => ∃ (rV : Bool), Sy h [] h' [] ∧ v = .bool rV ∧ R rV
theorem Ok6.mono {g edgesV usV heldV k scale} {R R' : Bool → Prop} (H : Ok6 g edgesV usV heldV k scale R) (kz : ∀ rV, R rV → R' rV) : Ok6 g edgesV usV heldV k scale R' :=
  fun h gA gL gC usA usL usC heldA heldL heldC hp => (H h gA gL gC usA usL usC heldA heldL heldC hp).mono fun _ _ ⟨rV, P, e, q⟩ => ⟨rV, P, e, kz _ q⟩

def T6 (g : Int) (edgesV : List (Int × Int)) (usV : List Int) (heldV : List Bool) (k : Int) (scale : Int) (R : Bool → Prop) : Prop :=
  Ok42 (fun r =>
  cnd (!r)
    (R false)
    (∃ Jv : Prop,
    ( Ok43 g edgesV (fun r2 =>
     cnd r2
       (cnd (decide (g > (60 : Int)))
         (R true)
         (cnd (decide (((edgesV.length : Nat) : Int) > (60 : Int)))
           (R true)
           (cnd (decide (((usV.length : Nat) : Int) > (600 : Int)))
             (R true)
             (cnd (decide (((heldV.length : Nat) : Int) > (300 : Int)))
               (R true)
               (cnd (decide (k > (40 : Int)))
                 (cnd (decide (k ≤ (4096 : Int)))
                   (R true)
                   (Jv))
                 (Jv))))))
       (cnd (decide (((usV.length : Nat) : Int) > (600 : Int)))
         (R true)
         (cnd (decide (((heldV.length : Nat) : Int) > (300 : Int)))
           (R true)
           (cnd (decide (k > (40 : Int)))
             (cnd (decide (k ≤ (4096 : Int)))
               (R true)
               (Jv))
             (Jv)))))) ∧
    (Jv →
    Ok44 usV (fun r_2 =>
    (0 + r_2.length) < 1000000000000 ∧ ((0 + r_2.length) + 1) < 1000000000000 ∧ 0 ≤ ((r_2.length : Nat) : Int) ∧ ((r_2.length : Nat) : Int) ≤ ((((0 + r_2.length) + 1) : Nat) : Int) ∧ callE Try.prog 45 #[.int .u64 scale] fun v4 =>
    ∃ r3 : Nat, v4 = .float .f64 r3 ∧
    ∃ (Iv : Int → Prop) (m : Int → Nat), Iv 0 ∧
    ∀ turn : Int, Iv turn →
    cnd (decide (turn < (2 : Int)))
      (Ok46 g edgesV (((([] : List (Nat × Nat)) ++ r_2) ++ [(4619567317775286272, 0)]).take (Int.toNat ((r_2.length : Nat) : Int))) heldV k (fun ra_2 rb =>
      Ok47 g edgesV r_2 heldV k (fun ra_3 rb2 =>
      Ok48 (((([] : List (Nat × Nat)) ++ r_2) ++ [(4619567317775286272, 0)]).take (Int.toNat ((r_2.length : Nat) : Int))) r3 (fun ra_4 rb3 =>
      Ok49 r_2 r3 (fun ra_5 rb4 =>
      ∃ Jv_2 : Prop,
      ( cnd (rb != rb2)
         (Jv_2)
         (Ok50 ra_2 ra_3 (fun r4 =>
         cnd (!r4)
           (Jv_2)
           (cnd (rb3 != rb4)
             (Jv_2)
             (cnd (((ra_4.length : Nat) : Int) != ((ra_5.length : Nat) : Int))
               (Jv_2)
               (Ok50 (((([] : List (Nat × Nat)) ++ r_2) ++ [(4619567317775286272, 0)]).take (Int.toNat ((r_2.length : Nat) : Int))) r_2 (fun r5 =>
               cnd (!r5)
                 (Jv_2)
                 (0 ≤ (IntKind.i64.wrap (((r_2.length : Nat) : Int) + (1 : Int))) ∧ (IntKind.i64.wrap (((r_2.length : Nat) : Int) + (1 : Int))) ≤ ((((0 + r_2.length) + 1) : Nat) : Int) ∧ 0 ≤ ((r_2.length : Nat) : Int) ∧ ((r_2.length : Nat) : Int) < ((((Int.toNat (IntKind.i64.wrap (((r_2.length : Nat) : Int) + (1 : Int)))) - 0) : Nat) : Int) ∧ ∀ x_2 : (Nat × Nat), (((([] : List (Nat × Nat)) ++ r_2) ++ [(4619567317775286272, 0)]).take (Int.toNat (IntKind.i64.wrap (((r_2.length : Nat) : Int) + (1 : Int)))))[(Int.toNat ((r_2.length : Nat) : Int))]? = some x_2 → cnd ((FloatKind.f64).format.order x_2.1 4619567317775286272 != some .eq)
                   (R false)
                   (∃ (Iv2 : Int → Prop) (m2 : Int → Nat), Iv2 0 ∧
                   ∀ n : Int, Iv2 n →
                   cnd (decide (n < ((ra_4.length : Nat) : Int)))
                     (0 ≤ n ∧ n < ((ra_4.length : Nat) : Int) ∧ ∀ ra_6 : (Int × Int), ra_4[(Int.toNat n)]? = some ra_6 → 0 ≤ n ∧ n < ((ra_5.length : Nat) : Int) ∧ ∀ ra_7 : (Int × Int), ra_5[(Int.toNat n)]? = some ra_7 → cnd (!((ra_6.1 == ra_7.1) && (ra_6.2 == ra_7.2)))
                       (R false)
                       (Iv2 (IntKind.i64.wrap (n + (1 : Int))) ∧ m2 (IntKind.i64.wrap (n + (1 : Int))) < m2 n))
                     (Ok51 (((([] : List (Nat × Nat)) ++ r_2) ++ [(4619567317775286272, 0)]).take (Int.toNat ((r_2.length : Nat) : Int))) ra_2 (fun ra rb5 =>
                     Ok52 r_2 ra_3 (fun ra2 rb6 =>
                     cnd (rb5 != rb6)
                       (R false)
                       (Ok53 ra ra2 (fun r6 =>
                       cnd (!r6)
                         (R false)
                         (∃ (Iv3 : Int → List (Nat × Nat) → Prop) (m3 : Int → List (Nat × Nat) → Nat), Iv3 0 ra_2 ∧
                         ∀ n2 : Int, ∀ ra_2_2 : List (Nat × Nat), Iv3 n2 ra_2_2 →
                         cnd (decide (n2 < ((ra_2.length : Nat) : Int)))
                           (0 ≤ n2 ∧ n2 < ((ra_2.length : Nat) : Int) ∧ Iv3 (IntKind.i64.wrap (n2 + (1 : Int))) (ra_2_2.set (Int.toNat n2) (13840687554816376832, 13840687554816376832)) ∧ m3 (IntKind.i64.wrap (n2 + (1 : Int))) (ra_2_2.set (Int.toNat n2) (13840687554816376832, 13840687554816376832)) < m3 n2 ra_2_2)
                           (Iv (IntKind.i64.wrap (turn + (1 : Int))) ∧ m (IntKind.i64.wrap (turn + (1 : Int))) < m turn)))))))))))))))) ∧
      (Jv_2 →
      R false))))))
      (R true)))))

theorem ok6 {g edgesV usV heldV k scale} {R : Bool → Prop} (T : T6 g edgesV usV heldV k scale R) : Ok6 g edgesV usV heldV k scale R := by
  intro h gA gL gC usA usL usC heldA heldL heldC H
  have Y : Sy h [] h _ := Sy.startM H rfl
  obtain rfl := Y.lenV 0 rfl
  obtain rfl := Y.lenV 1 rfl
  obtain rfl := Y.lenV 2 rfl
  apply calls6
  unfold S6
  unfold T6 at T
  intro hv
  have Y : Sy _ _ hv [_, _, _, _] := Y.junk _
  clear_value hv
  refine callX_sy (T _ (Hp.nil _)) (fun _ _ ⟨_, p, _⟩ => p.fr) (allc (fun h => by cases h) alln) ?_
  rintro v hv2 ⟨r, PP, rfl, T⟩
  have Y : Sy _ _ hv2 [_, _, _, _] := Y.gr PP.fr
  clear PP
  refine ⟨r, rfl, ?_⟩
  refine cnd_imp T (fun T => ?_) (fun T => ?_)
  · exact ⟨_, Y.pick [] rfl, rfl, T⟩
  · obtain ⟨Jv, T0, T1⟩ := T
    obtain ⟨B, hB, _⟩ := Y.cut [] [0, 1, 2, 3] rfl
    intro K
    have hK : ∀  (hv4 : Heap), (Sy h [] hv4 ([] ++ B) ∧ Jv) → K hv4 := by
      subst hB
      clear T0 Y
      rintro hv4 ⟨Y, T⟩
      replace T := T1 T
      have Y : Sy _ _ _ [_, _, _, _] := Y
      unfold K
      refine callX_sy (T _ _ _ _ (Y.pick [1] rfl).hp) (fun _ _ ⟨_, _, _, _, p, _⟩ => p.fr) (allc (fun h => by cases h) alln) ?_
      rintro v3 hv5 ⟨rA, rL, rC, r_2, PP, rfl, T⟩
      have Y : Sy _ _ hv5 [_, _, _, _, _] := Y.callV PP ⟨rfl, trivial⟩
      clear PP
      obtain rfl := Y.lenS 4 rfl
      refine ⟨_, _, _, rfl, ?_⟩
      refine ⟨_, Y.readsS 4 rfl, (Y.capS 4 rfl).2.2, En.l_one _, ?_⟩
      have Y : Sy _ _ _ [_, _, _, _, _, _] := Y.nilS eFF 56
      obtain ⟨q, T⟩ := T
      refine ⟨_, Y.ownS 5 rfl, (allc (Y.nJ 5 3 rfl rfl rfl) alln), by omega, by simp [maxLen]; omega, ?_⟩
      intro sA sC hv6 ow fA gA
      have Y : Sy _ _ hv6 [_, _, _, _, _, _] := Y.appS 5 rfl r_2 ow fA gA rfl (by first | rfl | simp)
      intro hv7
      have Y : Sy _ _ hv7 [_, _, _, _, _, _, _] := Y.junk _
      clear_value hv7
      obtain ⟨q_2, T⟩ := T
      refine ⟨_, Y.ownS 5 rfl, (allc (Y.nJ 5 6 rfl rfl rfl) (allc (Y.nJ 5 3 rfl rfl rfl) alln)), by omega, by simp [maxLen]; omega, ?_⟩
      intro sA2 sC2 hv8 ow fA gA
      have Y : Sy _ _ hv8 [_, _, _, _, _, _, _] := Y.appS 5 rfl ([(4619567317775286272, 0)] : List (Nat × Nat)) ow fA gA rfl rfl
      obtain ⟨q_3, q_4, T⟩ := T
      refine ⟨q_3, (by have := (Y.capS 5 rfl).1; omega), ?_⟩
      try rw [slice0]
      obtain ⟨Rx, hx_5, T⟩ := T
      refine ⟨Rx, hx_5, fun v4 hv => ?_⟩
      obtain ⟨r3, rfl, T⟩ := T v4 hv
      refine ⟨r3, rfl, ?_⟩
      obtain ⟨Iv, m, T0, T1⟩ := T
      obtain ⟨B_2, hB_2, YB⟩ := Y.cut [] [0, 1, 2, 3, 4, 5, 6] rfl
      obtain ⟨JJ, hJJ⟩ : ∃ JJ : Nat → List Value → Heap → Prop, JJ = (fun k_2 lz h' => ∃ (turn : Int), lz = [.int .i64 turn] ∧ Sy h [] h' ([] ++ B_2) ∧ Iv turn ∧ m turn = k_2) := ⟨_, rfl⟩
      refine ⟨fun lz h' => ∃ k_2, JJ k_2 lz h', Lm JJ, ?_, ?_⟩
      · subst hJJ hB_2
        exact ⟨_, _, rfl, YB, T0, rfl⟩
      · clear YB T0 Y
        intro turn hv9 hI
        obtain ⟨k_2, hI, hm⟩ := loopIn hI
        subst hJJ hB_2
        obtain ⟨turn, e, Y, T, rfl⟩ := hI
        cases e
        replace T := T1 turn T
        have Y : Sy _ _ _ [_, _, _, _, _, _, _] := Y
        refine cnd_imp T (fun T => ?_) (fun T => ?_)
        · refine callX_sy (T _ _ _ _ _ _ _ _ _ _ ((Y.turn 5 rfl (To.slvwT (Int.toNat ((r_2.length : Nat) : Int)) (by omega))).pick [0, 5, 2] rfl).hp) (fun _ _ ⟨_, _, _, _, _, p, _⟩ => p.fr) (allc (fun h => by cases h) alln) ?_
          rintro v5 hv10 ⟨raA, raL, raC, ra_2, rb, PP, rfl, T⟩
          have Y : Sy _ _ hv10 [_, _, _, _, _, _, _, _] := Y.callV PP ⟨rfl, trivial⟩
          clear PP
          obtain rfl := Y.lenS 7 rfl
          refine ⟨_, _, _, rb, rfl, ?_⟩
          refine callX_sy (T _ _ _ _ _ _ _ _ _ _ ((Y.turn 4 rfl To.slvw).pick [0, 4, 2] rfl).hp) (fun _ _ ⟨_, _, _, _, _, p, _⟩ => p.fr) (allc (fun h => by cases h) alln) ?_
          rintro v6 hv11 ⟨raA2, raL2, raC2, ra_3, rb2, PP, rfl, T⟩
          have Y : Sy _ _ hv11 [_, _, _, _, _, _, _, _, _] := Y.callV PP ⟨rfl, trivial⟩
          clear PP
          obtain rfl := Y.lenS 8 rfl
          refine ⟨_, _, _, rb2, rfl, ?_⟩
          refine callX_sy (T _ _ _ _ ((Y.turn 5 rfl (To.slvwT (Int.toNat ((r_2.length : Nat) : Int)) (by omega))).pick [5] rfl).hp) (fun _ _ ⟨_, _, _, _, _, p, _⟩ => p.fr) (allc (fun h => by cases h) alln) ?_
          rintro v7 hv12 ⟨raA3, raL3, raC3, ra_4, rb3, PP, rfl, T⟩
          have Y : Sy _ _ hv12 [_, _, _, _, _, _, _, _, _, _] := Y.callV PP ⟨rfl, trivial⟩
          clear PP
          obtain rfl := Y.lenS 9 rfl
          refine ⟨_, _, _, rb3, rfl, ?_⟩
          refine callX_sy (T _ _ _ _ ((Y.turn 4 rfl To.slvw).pick [4] rfl).hp) (fun _ _ ⟨_, _, _, _, _, p, _⟩ => p.fr) (allc (fun h => by cases h) alln) ?_
          rintro v8 hv13 ⟨raA4, raL4, raC4, ra_5, rb4, PP, rfl, T⟩
          have Y : Sy _ _ hv13 [_, _, _, _, _, _, _, _, _, _, _] := Y.callV PP ⟨rfl, trivial⟩
          clear PP
          obtain rfl := Y.lenS 10 rfl
          refine ⟨_, _, _, rb4, rfl, ?_⟩
          obtain ⟨Jv_2, T0, T1⟩ := T
          obtain ⟨B_3, hB_3, _⟩ := Y.cut [] [0, 1, 2, 3, 4, 5, 6, 7, 8, 9, 10] rfl
          intro K2
          have hK2 : ∀  (hv16 : Heap), (Sy h [] hv16 ([] ++ B_3) ∧ Jv_2) → K2 hv16 := by
            subst hB_3
            clear T0 Y
            rintro hv16 ⟨Y, T⟩
            replace T := T1 T
            have Y : Sy _ _ _ [_, _, _, _, _, _, _, _, _, _, _] := Y
            unfold K2
            exact ⟨_, Y.pick [] rfl, rfl, T⟩
          subst hB_3
          replace T := T0
          clear T0 T1
          refine cnd_imp T (fun T => ?_) (fun T => ?_)
          · exact hK2 _ ⟨Y.pick [0, 1, 2, 3, 4, 5, 6, 7, 8, 9, 10] rfl, T⟩
          · refine callX_sy (T _ _ _ _ _ _ _ (((Y.turn 7 rfl To.slvw).turn 8 rfl To.slvw).pick [7, 8] rfl).hp) (fun _ _ ⟨_, p, _⟩ => p.fr) (allc (fun h => by cases h) alln) ?_
            rintro v9 hv14 ⟨r4, PP, rfl, T⟩
            have Y : Sy _ _ hv14 [_, _, _, _, _, _, _, _, _, _, _] := Y.gr PP.fr
            clear PP
            refine ⟨r4, rfl, ?_⟩
            refine cnd_imp T (fun T => ?_) (fun T => ?_)
            · exact hK2 _ ⟨Y.pick [0, 1, 2, 3, 4, 5, 6, 7, 8, 9, 10] rfl, T⟩
            · refine cnd_imp T (fun T => ?_) (fun T => ?_)
              · exact hK2 _ ⟨Y.pick [0, 1, 2, 3, 4, 5, 6, 7, 8, 9, 10] rfl, T⟩
              · refine cnd_imp T (fun T => ?_) (fun T => ?_)
                · exact hK2 _ ⟨Y.pick [0, 1, 2, 3, 4, 5, 6, 7, 8, 9, 10] rfl, T⟩
                · refine callX_sy (T _ _ _ _ _ _ _ (((Y.turn 5 rfl (To.slvwT (Int.toNat ((r_2.length : Nat) : Int)) (by omega))).turn 4 rfl To.slvw).pick [5, 4] rfl).hp) (fun _ _ ⟨_, p, _⟩ => p.fr) (allc (fun h => by cases h) alln) ?_
                  rintro v10 hv15 ⟨r5, PP, rfl, T⟩
                  have Y : Sy _ _ hv15 [_, _, _, _, _, _, _, _, _, _, _] := Y.gr PP.fr
                  clear PP
                  refine ⟨r5, rfl, ?_⟩
                  refine cnd_imp T (fun T => ?_) (fun T => ?_)
                  · exact hK2 _ ⟨Y.pick [0, 1, 2, 3, 4, 5, 6, 7, 8, 9, 10] rfl, T⟩
                  · obtain ⟨q_5, q_6, T⟩ := T
                    refine ⟨q_5, (by have := (Y.capS 5 rfl).1; omega), ?_⟩
                    try rw [slice0]
                    obtain ⟨q_7, q_8, T⟩ := T
                    obtain ⟨b_2, o_2, hb, x_2, hx, hC⟩ := readsAt ((Y.readsS 5 rfl).takeR (Int.toNat (IntKind.i64.wrap (((r_2.length : Nat) : Int) + (1 : Int)))) (by omega)) q_7 q_8
                    refine ⟨b_2, o_2, hb, q_7, q_8, ?_⟩
                    replace T := T x_2 hx
                    refine ⟨_, hC 0 _ rfl, ?_⟩
                    refine cnd_imp T (fun T => ?_) (fun T => ?_)
                    · exact ⟨_, Y.pick [] rfl, rfl, T⟩
                    · obtain ⟨Iv2, m2, T0, T1⟩ := T
                      obtain ⟨B_4, hB_4, YB⟩ := Y.cut [] [0, 1, 2, 3, 4, 5, 6, 7, 8, 9, 10] rfl
                      obtain ⟨JJ_2, hJJ_2⟩ : ∃ JJ_2 : Nat → List Value → Heap → Prop, JJ_2 = (fun k_3 lz h' => ∃ (n : Int), lz = [.int .i64 n] ∧ Sy h [] h' ([] ++ B_4) ∧ Iv2 n ∧ m2 n = k_3) := ⟨_, rfl⟩
                      refine ⟨fun lz h' => ∃ k_3, JJ_2 k_3 lz h', Lm JJ_2, ?_, ?_⟩
                      · subst hJJ_2 hB_4
                        exact ⟨_, _, rfl, YB, T0, rfl⟩
                      · clear YB T0 Y
                        intro n hv17 hI
                        obtain ⟨k_3, hI, hm_2⟩ := loopIn hI
                        subst hJJ_2 hB_4
                        obtain ⟨n, e, Y, T, rfl⟩ := hI
                        cases e
                        replace T := T1 n T
                        have Y : Sy _ _ _ [_, _, _, _, _, _, _, _, _, _, _] := Y
                        refine cnd_imp T (fun T => ?_) (fun T => ?_)
                        · have Y0 := Y
                          have F : Fr [] hv17 hv17 := Fr.refl _ _
                          obtain ⟨q_9, q_10, T⟩ := T
                          obtain ⟨b_3, hb_2, ho, ra_6, hx_2⟩ := Y0.atS 9 rfl q_9 q_10
                          refine ⟨b_3, 0, hb_2, q_9, q_10, ?_⟩
                          replace T := T ra_6 hx_2
                          refine ⟨_, Y0.cellS 9 rfl hb_2 (t := 0) hx_2 rfl, ?_⟩
                          refine ⟨_, Y0.cellS 9 rfl hb_2 (t := 1) hx_2 rfl, ?_⟩
                          obtain ⟨q_11, q_12, T⟩ := T
                          obtain ⟨b_4, hb_3, ho_2, ra_7, hx_3⟩ := Y0.atS 10 rfl q_11 q_12
                          refine ⟨b_4, 0, hb_3, q_11, q_12, ?_⟩
                          replace T := T ra_7 hx_3
                          refine ⟨_, Y0.cellS 10 rfl hb_3 (t := 0) hx_3 rfl, ?_⟩
                          refine ⟨_, Y0.cellS 10 rfl hb_3 (t := 1) hx_3 rfl, ?_⟩
                          refine cnd_imp T (fun T => ?_) (fun T => ?_)
                          · exact ⟨_, Y.pick [] rfl, rfl, T⟩
                          · exact loopBack hm_2 ⟨_, rfl, Y.pick [0, 1, 2, 3, 4, 5, 6, 7, 8, 9, 10] rfl, T.1, rfl⟩ T.2
                        · refine callX_sy (T _ _ _ _ _ _ _ (((Y.turn 5 rfl (To.slvwT (Int.toNat ((r_2.length : Nat) : Int)) (by omega))).turn 7 rfl To.slvw).pick [5, 7] rfl).hp) (fun _ _ ⟨_, _, p, _⟩ => p.fr) (allc (fun h => by cases h) alln) ?_
                          rintro v11 hv18 ⟨ra, rb5, PP, rfl, T⟩
                          have Y : Sy _ _ hv18 [_, _, _, _, _, _, _, _, _, _, _] := Y.gr PP.fr
                          clear PP
                          refine ⟨ra, rb5, rfl, ?_⟩
                          refine callX_sy (T _ _ _ _ _ _ _ (((Y.turn 4 rfl To.slvw).turn 8 rfl To.slvw).pick [4, 8] rfl).hp) (fun _ _ ⟨_, _, p, _⟩ => p.fr) (allc (fun h => by cases h) alln) ?_
                          rintro v12 hv19 ⟨ra2, rb6, PP, rfl, T⟩
                          have Y : Sy _ _ hv19 [_, _, _, _, _, _, _, _, _, _, _] := Y.gr PP.fr
                          clear PP
                          refine ⟨ra2, rb6, rfl, ?_⟩
                          refine cnd_imp T (fun T => ?_) (fun T => ?_)
                          · exact ⟨_, Y.pick [] rfl, rfl, T⟩
                          · refine callX_sy (T _ (Hp.nil _)) (fun _ _ ⟨_, p, _⟩ => p.fr) (allc (fun h => by cases h) alln) ?_
                            rintro v13 hv20 ⟨r6, PP, rfl, T⟩
                            have Y : Sy _ _ hv20 [_, _, _, _, _, _, _, _, _, _, _] := Y.gr PP.fr
                            clear PP
                            refine ⟨r6, rfl, ?_⟩
                            refine cnd_imp T (fun T => ?_) (fun T => ?_)
                            · exact ⟨_, Y.pick [] rfl, rfl, T⟩
                            · obtain ⟨Iv3, m3, T0, T1⟩ := T
                              obtain ⟨B_5, hB_5, YB⟩ := Y.cut [7] [0, 1, 2, 3, 4, 5, 6, 8, 9, 10] rfl
                              obtain ⟨F, hF⟩ := Y.fnS (k := 7) rfl
                              obtain ⟨JJ_3, hJJ_3⟩ : ∃ JJ_3 : Nat → List Value → Heap → Prop, JJ_3 = (fun k_4 lz h' => ∃ (n2 : Int) (ra_2_2 : List (Nat × Nat)), lz = [.int .i64 n2] ∧ Sy h [] h' ([F ra_2_2] ++ B_5) ∧ Iv3 n2 ra_2_2 ∧ m3 n2 ra_2_2 = k_4) := ⟨_, rfl⟩
                              refine ⟨fun lz h' => ∃ k_4, JJ_3 k_4 lz h', Lm JJ_3, ?_, ?_⟩
                              · subst hJJ_3 hB_5 hF
                                exact ⟨_, _, _, rfl, YB, T0, rfl⟩
                              · clear YB T0 Y
                                intro n2 hv21 hI
                                obtain ⟨k_4, hI, hm_3⟩ := loopIn hI
                                subst hJJ_3 hB_5 hF
                                obtain ⟨n2, ra_2_2, e, Y, T, rfl⟩ := hI
                                cases e
                                replace T := T1 n2 ra_2_2 T
                                have Y : Sy _ _ _ [_, _, _, _, _, _, _, _, _, _, _] := Y
                                refine cnd_imp T (fun T => ?_) (fun T => ?_)
                                · obtain ⟨q_13, q_14, T⟩ := T
                                  obtain ⟨b_5, hb_4, ho_3, ra_8, hx_4⟩ := Y.atS 0 rfl q_13 q_14
                                  refine ⟨b_5, 0, hb_4, q_13, q_14, ?_⟩
                                  refine ⟨(Y.neJ 0 4 rfl rfl rfl ho_3), Y.cellEx 0 rfl hb_4 (t := 0) (by omega) (by decide), Y.freeS 0 rfl hb_4 _, Y.cellEx 0 rfl hb_4 (t := 1) (by omega) (by decide), Y.freeS 0 rfl hb_4 _, ?_⟩
                                  intro hv22
                                  have Y : Sy _ _ hv22 [_, _, _, _, _, _, _, _, _, _, _] := Y.st2 0 rfl hb_4 (13840687554816376832, 13840687554816376832) (by omega) rfl (fun y => ⟨(13840687554816376832, y.2), rfl⟩) rfl
                                  clear_value hv22
                                  exact loopBack hm_3 ⟨_, _, rfl, Y.pick [0, 1, 2, 3, 4, 5, 6, 7, 8, 9, 10] rfl, T.1, rfl⟩ T.2
                                · exact loopBack hm ⟨_, rfl, Y.pick [1, 2, 3, 4, 5, 6, 7] rfl, T.1, rfl⟩ T.2
        · exact ⟨_, Y.pick [] rfl, rfl, T⟩
    subst hB
    replace T := T0
    clear T0 T1
    refine callX_sy (T _ _ _ _ (Y.pick [0] rfl).hp) (fun _ _ ⟨_, p, _⟩ => p.fr) (allc (fun h => by cases h) alln) ?_
    rintro v2 hv3 ⟨r2, PP, rfl, T⟩
    have Y : Sy _ _ hv3 [_, _, _, _] := Y.gr PP.fr
    clear PP
    refine ⟨r2, rfl, ?_⟩
    refine cnd_imp T (fun T => ?_) (fun T => ?_)
    · refine cnd_imp T (fun T => ?_) (fun T => ?_)
      · exact ⟨_, Y.pick [] rfl, rfl, T⟩
      · refine cnd_imp T (fun T => ?_) (fun T => ?_)
        · exact ⟨_, Y.pick [] rfl, rfl, T⟩
        · refine cnd_imp T (fun T => ?_) (fun T => ?_)
          · exact ⟨_, Y.pick [] rfl, rfl, T⟩
          · refine cnd_imp T (fun T => ?_) (fun T => ?_)
            · exact ⟨_, Y.pick [] rfl, rfl, T⟩
            · refine cnd_imp T (fun T => ?_) (fun T => ?_)
              · refine cnd_imp T (fun T => ?_) (fun T => ?_)
                · exact ⟨_, Y.pick [] rfl, rfl, T⟩
                · exact hK _ ⟨Y.pick [0, 1, 2, 3] rfl, T⟩
              · exact hK _ ⟨Y.pick [0, 1, 2, 3] rfl, T⟩
    · refine cnd_imp T (fun T => ?_) (fun T => ?_)
      · exact ⟨_, Y.pick [] rfl, rfl, T⟩
      · refine cnd_imp T (fun T => ?_) (fun T => ?_)
        · exact ⟨_, Y.pick [] rfl, rfl, T⟩
        · refine cnd_imp T (fun T => ?_) (fun T => ?_)
          · refine cnd_imp T (fun T => ?_) (fun T => ?_)
            · exact ⟨_, Y.pick [] rfl, rfl, T⟩
            · exact hK _ ⟨Y.pick [0, 1, 2, 3] rfl, T⟩
          · exact hK _ ⟨Y.pick [0, 1, 2, 3] rfl, T⟩

/-- tracery/tracerylaw28.TutteSteps -/
def S7 (g : Int) (gA : Option Addr) (gL gC : Nat) (usA : Option Addr) (usL usC : Nat) (heldA : Option Addr) (heldL heldC : Nat) (k : Int) (n : Int) (h : Heap) (R : Value → Heap → Prop) : Prop :=
  let hv : Heap := h.push (.cells #[.int .i64 g, .slice gA gL gC] 26)
  callX Try.prog 42 #[] hv [h.size] fun v hv2 =>
  ∃ r : Bool, v = .bool r ∧
  cnd (!r)
    (R (.bool false) hv2)
    (let K := fun (hv4 : Heap) =>
      (R (.bool true) hv4)
    callX Try.prog 43 #[.agg #[.int .i64 g, .slice gA gL gC]] hv2 [h.size] fun v2 hv3 =>
    ∃ r2 : Bool, v2 = .bool r2 ∧
    cnd (!r2)
      (K hv3)
      (cnd (decide (g > (60 : Int)))
        (K hv3)
        (cnd (decide (((gL : Nat) : Int) > (60 : Int)))
          (K hv3)
          (cnd (decide (k < (0 : Int)))
            (K hv3)
            (cnd (decide (n < (0 : Int)))
              (K hv3)
              (cnd (decide (k > (20 : Int)))
                (K hv3)
                (cnd (decide (n > (20 : Int)))
                  (R (.bool true) hv3)
                  (callX Try.prog 44 #[.slice usA usL usC] hv3 [h.size] fun v3 hv5 =>
                  ∃ (rA : Option Addr) (rL rC : Nat), v3 = .slice rA rL rC ∧
                  callX Try.prog 46 #[.agg #[.int .i64 g, .slice gA gL gC], .slice rA rL rC, .slice heldA heldL heldC, .int .i64 k] hv5 [h.size] fun v4 hv6 =>
                  ∃ (raA : Option Addr) (raL raC : Nat), ∃ rb : Int, v4 = .tuple #[.slice raA raL raC, .int .i64 rb] ∧
                  cnd (rb != (0 : Int))
                    (cnd (rb == (1 : Int))
                      (R (.bool (((raL : Nat) : Int) == (0 : Int))) hv6)
                      (R (.bool false) hv6))
                    (callX Try.prog 46 #[.agg #[.int .i64 g, .slice gA gL gC], .slice raA raL raC, .slice heldA heldL heldC, .int .i64 n] hv6 [h.size] fun v5 hv7 =>
                    ∃ (raA2 : Option Addr) (raL2 raC2 : Nat), ∃ rb2 : Int, v5 = .tuple #[.slice raA2 raL2 raC2, .int .i64 rb2] ∧
                    callX Try.prog 46 #[.agg #[.int .i64 g, .slice gA gL gC], .slice rA rL rC, .slice heldA heldL heldC, .int .i64 (IntKind.i64.wrap (k + n))] hv7 [h.size] fun v6 hv8 =>
                    ∃ (raA3 : Option Addr) (raL3 raC3 : Nat), ∃ rb3 : Int, v6 = .tuple #[.slice raA3 raL3 raC3, .int .i64 rb3] ∧
                    0 ≤ g ∧ g ≤ g ∧ ((1 : Nat) : Int) * g ≤ 281474976710656 ∧ g ≤ 9223372036854775807 ∧ let hv9 : Heap := hv8.push (.cells (madeCells (List.toArray [.bool false]) (Int.toNat g * 1)) 4)
                    ∃ (Iv : List Value → Heap → Prop) (m : List Value → Heap → Nat), Iv [.int .i64 0] hv9 ∧ -- loop 0: ['v']
                    ∀ v7 : Int, ∀ hv10, Iv [.int .i64 v7] hv10 →
                    cnd (decide (v7 < g))
                      (let K2 := fun (hv14 : Heap) =>
                        (Iv [.int .i64 (IntKind.i64.wrap (v7 + (1 : Int)))] hv14 ∧ m [.int .i64 (IntKind.i64.wrap (v7 + (1 : Int)))] hv14 < m [.int .i64 v7] hv10)
                      ∃ b o, (some (⟨hv8.size, 0, none⟩ : Addr)) = some ⟨b, o, none⟩ ∧ 0 ≤ v7 ∧ v7 < ((Int.toNat g) : Nat) ∧ b ≠ h.size ∧ (∃ u, hcell hv10 b (o + (Int.toNat v7) * 1) = some u) ∧ hfree hv10 b (o + (Int.toNat v7) * 1) = true ∧ let hv11 : Heap := hset hv10 b (o + (Int.toNat v7) * 1) (.bool true)
                      ∃ b2 o2, heldA = some ⟨b2, o2, none⟩ ∧ 0 ≤ v7 ∧ v7 < (heldL : Nat) ∧ ∃ x : Bool, hcell hv11 b2 (o2 + (Int.toNat v7) * 1) = some (.bool x) ∧ cnd x
                        (∃ b3 o3, raA3 = some ⟨b3, o3, none⟩ ∧ 0 ≤ v7 ∧ v7 < (raL3 : Nat) ∧ ∃ x2 : Nat, hcell hv11 b3 (o3 + (Int.toNat v7) * 2) = some (.float .f64 x2) ∧ ∃ b4 o4, rA = some ⟨b4, o4, none⟩ ∧ 0 ≤ v7 ∧ v7 < (rL : Nat) ∧ ∃ x3 : Nat, hcell hv11 b4 (o4 + (Int.toNat v7) * 2) = some (.float .f64 x3) ∧ callX Try.prog 53 #[.float .f64 x2, .float .f64 x3] hv11 [h.size] fun v8 hv12 =>
                        ∃ r3 : Bool, v8 = .bool r3 ∧
                        Fr [] hv11 hv12 ∧
                        cnd (!r3)
                          (Fr [] hv11 hv12 ∧
                          R (.bool false) hv12)
                          (∃ b5 o5, raA3 = some ⟨b5, o5, none⟩ ∧ 0 ≤ v7 ∧ v7 < (raL3 : Nat) ∧ ∃ x4 : Nat, hcell hv11 b5 ((o5 + (Int.toNat v7) * 2) + 1) = some (.float .f64 x4) ∧ ∃ b6 o6, rA = some ⟨b6, o6, none⟩ ∧ 0 ≤ v7 ∧ v7 < (rL : Nat) ∧ ∃ x5 : Nat, hcell hv11 b6 ((o6 + (Int.toNat v7) * 2) + 1) = some (.float .f64 x5) ∧ callX Try.prog 53 #[.float .f64 x4, .float .f64 x5] hv12 [h.size] fun v9 hv13 =>
                          ∃ r4 : Bool, v9 = .bool r4 ∧
                          Fr [] hv11 hv13 ∧
                          cnd (!r4)
                            (R (.bool false) hv13)
                            (K2 hv13)))
                        (Fr [] hv11 hv11 ∧
                        Fr [] hv11 hv11 ∧
                        K2 hv11))
                      (callX Try.prog 46 #[.agg #[.int .i64 g, .slice gA gL gC], .slice rA rL rC, .slice (some (⟨hv8.size, 0, none⟩ : Addr)) (Int.toNat g) (Int.toNat g), .int .i64 n] hv10 [h.size] fun v10 hv15 =>
                      ∃ (raA4 : Option Addr) (raL4 raC4 : Nat), ∃ rb4 : Int, v10 = .tuple #[.slice raA4 raL4 raC4, .int .i64 rb4] ∧
                      callX Try.prog 46 #[.agg #[.int .i64 g, .slice gA gL gC], .slice rA rL rC, .slice heldA heldL heldC, .int .i64 0] hv15 [h.size] fun v11 hv16 =>
                      ∃ (raA5 : Option Addr) (raL5 raC5 : Nat), ∃ rb5 : Int, v11 = .tuple #[.slice raA5 raL5 raC5, .int .i64 rb5] ∧
                      let K3 := fun (hv20 : Heap) =>
                        (R (.bool false) hv20)
                      cnd (rb2 == (0 : Int))
                        (cnd (rb3 == (0 : Int))
                          (cnd (rb4 == (0 : Int))
                            (cnd (rb5 == (0 : Int))
                              (callX Try.prog 50 #[.slice raA2 raL2 raC2, .slice raA3 raL3 raC3] hv16 [h.size] fun v12 hv17 =>
                              ∃ r5 : Bool, v12 = .bool r5 ∧
                              cnd r5
                                (callX Try.prog 50 #[.slice raA4 raL4 raC4, .slice rA rL rC] hv17 [h.size] fun v13 hv18 =>
                                ∃ r6 : Bool, v13 = .bool r6 ∧
                                cnd r6
                                  (callX Try.prog 50 #[.slice raA5 raL5 raC5, .slice rA rL rC] hv18 [h.size] fun v14 hv19 =>
                                  ∃ r7 : Bool, v14 = .bool r7 ∧
                                  R (.bool r7) hv19)
                                  (K3 hv18))
                                (K3 hv17))
                              (K3 hv16))
                            (K3 hv16))
                          (K3 hv16))
                        (K3 hv16)))))))))))

theorem calls7 {h : Heap} {R : Value → Heap → Prop} (g : Int) (gA : Option Addr) (gL gC : Nat) (usA : Option Addr) (usL usC : Nat) (heldA : Option Addr) (heldL heldC : Nat) (k : Int) (n : Int) (H : S7 g gA gL gC usA usL usC heldA heldL heldC k n h R) : CallsH Try.prog 7 #[.agg #[.int .i64 g, .slice gA gL gC], .slice usA usL usC, .slice heldA heldL heldC, .int .i64 k, .int .i64 n] h R := by
  have e : S7 g gA gL gC usA usL usC heldA heldL heldC k n h R = FX (envX [5] 180) { loops := [(0, ⟨[2, 4, 5, 11, 13, 14, 15, 16, 17], [18], [5], []⟩)], joins := [], blocks := [], draws := [(16, ⟨32, false⟩)] } Try.f7 (Try.f7.body.getD .skip) [.agg #[.int .i64 g, .slice gA gL gC], .slice usA usL usC, .slice heldA heldL heldC, .int .i64 k, .int .i64 n] h R := by kernel_rfl
  exact calls_of_FX (envX_ok _ _) Try.func7 (by kernel_rfl) (by kernel_rfl) (by kernel_rfl) (e ▸ H)

/-- tracery/tracerylaw28.TutteSteps -/
def Ok7 (g : Int) (edgesV : List (Int × Int)) (usV : List Int) (heldV : List Bool) (k : Int) (n : Int) (R : Bool → Prop) : Prop :=
  ∀ (h : Heap) (gA : Option Addr) (gL gC : Nat) (usA : Option Addr) (usL usC : Nat) (heldA : Option Addr) (heldL heldC : Nat), Hp h [Ck.vw eP gA gL gC edgesV, Ck.vw (eK .u64) usA usL usC usV, Ck.vw eB heldA heldL heldC heldV] → CallsH Try.prog 7 #[.agg #[.int .i64 g, .slice gA gL gC], .slice usA usL usC, .slice heldA heldL heldC, .int .i64 k, .int .i64 n] h fun v h' => ∃ (rV : Bool), Sy h [] h' [] ∧ v = .bool rV ∧ R rV
theorem Ok7.mono {g edgesV usV heldV k n} {R R' : Bool → Prop} (H : Ok7 g edgesV usV heldV k n R) (kz : ∀ rV, R rV → R' rV) : Ok7 g edgesV usV heldV k n R' :=
  fun h gA gL gC usA usL usC heldA heldL heldC hp => (H h gA gL gC usA usL usC heldA heldL heldC hp).mono fun _ _ ⟨rV, P, e, q⟩ => ⟨rV, P, e, kz _ q⟩

def T7 (g : Int) (edgesV : List (Int × Int)) (usV : List Int) (heldV : List Bool) (k : Int) (n : Int) (R : Bool → Prop) : Prop :=
  Ok42 (fun r =>
  cnd (!r)
    (R false)
    (∃ Jv : Prop,
    ( Ok43 g edgesV (fun r2 =>
     cnd (!r2)
       (Jv)
       (cnd (decide (g > (60 : Int)))
         (Jv)
         (cnd (decide (((edgesV.length : Nat) : Int) > (60 : Int)))
           (Jv)
           (cnd (decide (k < (0 : Int)))
             (Jv)
             (cnd (decide (n < (0 : Int)))
               (Jv)
               (cnd (decide (k > (20 : Int)))
                 (Jv)
                 (cnd (decide (n > (20 : Int)))
                   (R true)
                   (Ok44 usV (fun r_2 =>
                   Ok46 g edgesV r_2 heldV k (fun ra rb =>
                   cnd (rb != (0 : Int))
                     (cnd (rb == (1 : Int))
                       (R (((ra.length : Nat) : Int) == (0 : Int)))
                       (R false))
                     (Ok46 g edgesV ra heldV n (fun ra_2 rb2 =>
                     Ok46 g edgesV r_2 heldV (IntKind.i64.wrap (k + n)) (fun ra_3 rb3 =>
                     0 ≤ g ∧ g ≤ 1000000000000 ∧ ∃ (Iv : Int → List Bool → Prop) (m : Int → List Bool → Nat), Iv 0 (List.replicate (Int.toNat g) false) ∧
                     ∀ v7 : Int, ∀ x_2 : List Bool, Iv v7 x_2 →
                     cnd (decide (v7 < g))
                       (∃ Jv_2 : List Bool → Prop,
                       ( 0 ≤ v7 ∧ v7 < (((Int.toNat g) : Nat) : Int) ∧ 0 ≤ v7 ∧ v7 < ((heldV.length : Nat) : Int) ∧ ∀ held : Bool, heldV[(Int.toNat v7)]? = some held → cnd held
                          (0 ≤ v7 ∧ v7 < ((ra_3.length : Nat) : Int) ∧ ∀ ra_4 : (Nat × Nat), ra_3[(Int.toNat v7)]? = some ra_4 → 0 ≤ v7 ∧ v7 < ((r_2.length : Nat) : Int) ∧ ∀ r_3 : (Nat × Nat), r_2[(Int.toNat v7)]? = some r_3 → Ok53 ra_4.1 r_3.1 (fun r3 =>
                          cnd (!r3)
                            (R false)
                            (Ok53 ra_4.2 r_3.2 (fun r4 =>
                            cnd (!r4)
                              (R false)
                              (Jv_2 (x_2.set (Int.toNat v7) true))))))
                          (Jv_2 (x_2.set (Int.toNat v7) true))) ∧
                       ∀ x_2_2 : List Bool, Jv_2 x_2_2 →
                       Iv (IntKind.i64.wrap (v7 + (1 : Int))) x_2_2 ∧ m (IntKind.i64.wrap (v7 + (1 : Int))) x_2_2 < m v7 x_2)
                       (Ok46 g edgesV r_2 x_2 n (fun ra_5 rb4 =>
                       Ok46 g edgesV r_2 heldV 0 (fun ra_6 rb5 =>
                       ∃ Jv_3 : Prop,
                       ( cnd (rb2 == (0 : Int))
                          (cnd (rb3 == (0 : Int))
                            (cnd (rb4 == (0 : Int))
                              (cnd (rb5 == (0 : Int))
                                (Ok50 ra_2 ra_3 (fun r5 =>
                                cnd r5
                                  (Ok50 ra_5 r_2 (fun r6 =>
                                  cnd r6
                                    (Ok50 ra_6 r_2 (fun r7 =>
                                    R r7))
                                    (Jv_3)))
                                  (Jv_3)))
                                (Jv_3))
                              (Jv_3))
                            (Jv_3))
                          (Jv_3)) ∧
                       (Jv_3 →
                       R false)))))))))))))))))) ∧
    (Jv →
    R true)))

theorem ok7 {g edgesV usV heldV k n} {R : Bool → Prop} (T : T7 g edgesV usV heldV k n R) : Ok7 g edgesV usV heldV k n R := by
  intro h gA gL gC usA usL usC heldA heldL heldC H
  have Y : Sy h [] h _ := Sy.startM H rfl
  obtain rfl := Y.lenV 0 rfl
  obtain rfl := Y.lenV 1 rfl
  obtain rfl := Y.lenV 2 rfl
  apply calls7
  unfold S7
  unfold T7 at T
  intro hv
  have Y : Sy _ _ hv [_, _, _, _] := Y.junk _
  clear_value hv
  refine callX_sy (T _ (Hp.nil _)) (fun _ _ ⟨_, p, _⟩ => p.fr) (allc (fun h => by cases h) alln) ?_
  rintro v hv2 ⟨r, PP, rfl, T⟩
  have Y : Sy _ _ hv2 [_, _, _, _] := Y.gr PP.fr
  clear PP
  refine ⟨r, rfl, ?_⟩
  refine cnd_imp T (fun T => ?_) (fun T => ?_)
  · exact ⟨_, Y.pick [] rfl, rfl, T⟩
  · obtain ⟨Jv, T0, T1⟩ := T
    obtain ⟨B, hB, _⟩ := Y.cut [] [0, 1, 2, 3] rfl
    intro K
    have hK : ∀  (hv4 : Heap), (Sy h [] hv4 ([] ++ B) ∧ Jv) → K hv4 := by
      subst hB
      clear T0 Y
      rintro hv4 ⟨Y, T⟩
      replace T := T1 T
      have Y : Sy _ _ _ [_, _, _, _] := Y
      unfold K
      exact ⟨_, Y.pick [] rfl, rfl, T⟩
    subst hB
    replace T := T0
    clear T0 T1
    refine callX_sy (T _ _ _ _ (Y.pick [0] rfl).hp) (fun _ _ ⟨_, p, _⟩ => p.fr) (allc (fun h => by cases h) alln) ?_
    rintro v2 hv3 ⟨r2, PP, rfl, T⟩
    have Y : Sy _ _ hv3 [_, _, _, _] := Y.gr PP.fr
    clear PP
    refine ⟨r2, rfl, ?_⟩
    refine cnd_imp T (fun T => ?_) (fun T => ?_)
    · exact hK _ ⟨Y.pick [0, 1, 2, 3] rfl, T⟩
    · refine cnd_imp T (fun T => ?_) (fun T => ?_)
      · exact hK _ ⟨Y.pick [0, 1, 2, 3] rfl, T⟩
      · refine cnd_imp T (fun T => ?_) (fun T => ?_)
        · exact hK _ ⟨Y.pick [0, 1, 2, 3] rfl, T⟩
        · refine cnd_imp T (fun T => ?_) (fun T => ?_)
          · exact hK _ ⟨Y.pick [0, 1, 2, 3] rfl, T⟩
          · refine cnd_imp T (fun T => ?_) (fun T => ?_)
            · exact hK _ ⟨Y.pick [0, 1, 2, 3] rfl, T⟩
            · refine cnd_imp T (fun T => ?_) (fun T => ?_)
              · exact hK _ ⟨Y.pick [0, 1, 2, 3] rfl, T⟩
              · refine cnd_imp T (fun T => ?_) (fun T => ?_)
                · exact ⟨_, Y.pick [] rfl, rfl, T⟩
                · refine callX_sy (T _ _ _ _ (Y.pick [1] rfl).hp) (fun _ _ ⟨_, _, _, _, p, _⟩ => p.fr) (allc (fun h => by cases h) alln) ?_
                  rintro v3 hv5 ⟨rA, rL, rC, r_2, PP, rfl, T⟩
                  have Y : Sy _ _ hv5 [_, _, _, _, _] := Y.callV PP ⟨rfl, trivial⟩
                  clear PP
                  obtain rfl := Y.lenS 4 rfl
                  refine ⟨_, _, _, rfl, ?_⟩
                  refine callX_sy (T _ _ _ _ _ _ _ _ _ _ ((Y.turn 4 rfl To.slvw).pick [0, 4, 2] rfl).hp) (fun _ _ ⟨_, _, _, _, _, p, _⟩ => p.fr) (allc (fun h => by cases h) alln) ?_
                  rintro v4 hv6 ⟨raA, raL, raC, ra, rb, PP, rfl, T⟩
                  have Y : Sy _ _ hv6 [_, _, _, _, _, _] := Y.callV PP ⟨rfl, trivial⟩
                  clear PP
                  obtain rfl := Y.lenS 5 rfl
                  refine ⟨_, _, _, rb, rfl, ?_⟩
                  refine cnd_imp T (fun T => ?_) (fun T => ?_)
                  · refine cnd_imp T (fun T => ?_) (fun T => ?_)
                    · exact ⟨_, Y.pick [] rfl, rfl, T⟩
                    · exact ⟨_, Y.pick [] rfl, rfl, T⟩
                  · refine callX_sy (T _ _ _ _ _ _ _ _ _ _ ((Y.turn 5 rfl To.slvw).pick [0, 5, 2] rfl).hp) (fun _ _ ⟨_, _, _, _, _, p, _⟩ => p.fr) (allc (fun h => by cases h) alln) ?_
                    rintro v5 hv7 ⟨raA2, raL2, raC2, ra_2, rb2, PP, rfl, T⟩
                    have Y : Sy _ _ hv7 [_, _, _, _, _, _, _] := Y.callV PP ⟨rfl, trivial⟩
                    clear PP
                    obtain rfl := Y.lenS 6 rfl
                    refine ⟨_, _, _, rb2, rfl, ?_⟩
                    refine callX_sy (T _ _ _ _ _ _ _ _ _ _ ((Y.turn 4 rfl To.slvw).pick [0, 4, 2] rfl).hp) (fun _ _ ⟨_, _, _, _, _, p, _⟩ => p.fr) (allc (fun h => by cases h) alln) ?_
                    rintro v6 hv8 ⟨raA3, raL3, raC3, ra_3, rb3, PP, rfl, T⟩
                    have Y : Sy _ _ hv8 [_, _, _, _, _, _, _, _] := Y.callV PP ⟨rfl, trivial⟩
                    clear PP
                    obtain rfl := Y.lenS 7 rfl
                    refine ⟨_, _, _, rb3, rfl, ?_⟩
                    obtain ⟨q, q_3, T⟩ := T
                    refine ⟨q, Int.le_refl _, by omega, by omega, ?_⟩
                    intro hv9
                    have Y : Sy _ _ hv9 [_, _, _, _, _, _, _, _, _] := Y.mkS (E := eB) (ty := 4) false (Int.toNat g) (Int.toNat g) (Nat.le_refl _) (by simp [maxLen]; omega)
                    clear_value hv9
                    obtain ⟨Iv, m, T0, T1⟩ := T
                    obtain ⟨B_2, hB_2, YB⟩ := Y.cut [8] [0, 1, 2, 3, 4, 5, 6, 7] rfl
                    obtain ⟨F, hF⟩ := Y.fnS (k := 8) rfl
                    obtain ⟨JJ, hJJ⟩ : ∃ JJ : Nat → List Value → Heap → Prop, JJ = (fun k_2 lz h' => ∃ (v7 : Int) (x_2 : List Bool), lz = [.int .i64 v7] ∧ Sy h [] h' ([F x_2] ++ B_2) ∧ Iv v7 x_2 ∧ m v7 x_2 = k_2) := ⟨_, rfl⟩
                    refine ⟨fun lz h' => ∃ k_2, JJ k_2 lz h', Lm JJ, ?_, ?_⟩
                    · subst hJJ hB_2 hF
                      exact ⟨_, _, _, rfl, YB, T0, rfl⟩
                    · clear YB T0 Y
                      intro v7 hv10 hI
                      obtain ⟨k_2, hI, hm⟩ := loopIn hI
                      subst hJJ hB_2 hF
                      obtain ⟨v7, x_2, e, Y, T, rfl⟩ := hI
                      cases e
                      replace T := T1 v7 x_2 T
                      have Y : Sy _ _ _ [_, _, _, _, _, _, _, _, _] := Y
                      refine cnd_imp T (fun T => ?_) (fun T => ?_)
                      · obtain ⟨Jv_2, T0, T1⟩ := T
                        obtain ⟨B_3, hB_3, _⟩ := Y.cut [] [1, 2, 3, 4, 5, 6, 7, 8] rfl
                        obtain ⟨F_2, hF_2⟩ := Y.fnS (k := 0) rfl
                        intro K2
                        have hK2 : ∀  (hv14 : Heap), (∃ (x_2_2 : List Bool), Sy h [] hv14 ([F_2 x_2_2] ++ B_3) ∧ Jv_2 x_2_2) → K2 hv14 := by
                          subst hB_3 hF_2
                          clear T0 Y
                          rintro hv14 ⟨x_2_2, Y, T⟩
                          replace T := T1 x_2_2 T
                          have Y : Sy _ _ _ [_, _, _, _, _, _, _, _, _] := Y
                          unfold K2
                          exact loopBack hm ⟨_, _, rfl, Y.pick [0, 1, 2, 3, 4, 5, 6, 7, 8] rfl, T.1, rfl⟩ T.2
                        subst hB_3 hF_2
                        replace T := T0
                        clear T0 T1
                        obtain ⟨q_4, q_5, T⟩ := T
                        obtain ⟨b_2, hb, ho, x_3, hx⟩ := Y.atS 0 rfl q_4 q_5
                        refine ⟨b_2, 0, hb, q_4, q_5, ?_⟩
                        refine ⟨(Y.neJ 0 4 rfl rfl rfl ho), Y.cellEx 0 rfl hb (t := 0) (by omega) (by decide), Y.freeS 0 rfl hb _, ?_⟩
                        intro hv11
                        have Y : Sy _ _ hv11 [_, _, _, _, _, _, _, _, _] := Y.st1 0 rfl hb true (by omega) rfl
                        clear_value hv11
                        have Y0 := Y
                        have F : Fr [] hv11 hv11 := Fr.refl _ _
                        obtain ⟨q_6, q_7, T⟩ := T
                        obtain ⟨b_3, o_2, hb_2, hr, held, hx_2⟩ := Y0.atV 3 rfl q_6 q_7
                        refine ⟨b_3, o_2, hb_2, q_6, q_7, ?_⟩
                        replace T := T held hx_2
                        refine ⟨_, Y0.cellV 3 rfl hb_2 (t := 0) hx_2 rfl, ?_⟩
                        refine cnd_imp T (fun T => ?_) (fun T => ?_)
                        · obtain ⟨q_8, q_9, T⟩ := T
                          obtain ⟨b_4, hb_3, ho_2, ra_4, hx_3⟩ := Y0.atS 8 rfl q_8 q_9
                          refine ⟨b_4, 0, hb_3, q_8, q_9, ?_⟩
                          replace T := T ra_4 hx_3
                          refine ⟨_, Y0.cellS 8 rfl hb_3 (t := 0) hx_3 rfl, ?_⟩
                          obtain ⟨q_10, q_11, T⟩ := T
                          obtain ⟨b_5, hb_4, ho_3, r_3, hx_4⟩ := Y0.atS 5 rfl q_10 q_11
                          refine ⟨b_5, 0, hb_4, q_10, q_11, ?_⟩
                          replace T := T r_3 hx_4
                          refine ⟨_, Y0.cellS 5 rfl hb_4 (t := 0) hx_4 rfl, ?_⟩
                          refine callX_sy (T _ (Hp.nil _)) (fun _ _ ⟨_, p, _⟩ => p.fr) (allc (fun h => by cases h) alln) ?_
                          rintro v8 hv12 ⟨r3, PP, rfl, T⟩
                          have F : Fr _ _ hv12 := F.trans PP.fr.nil
                          have fshv12 := F.size
                          have Y : Sy _ _ hv12 [_, _, _, _, _, _, _, _, _] := Y.gr PP.fr
                          clear PP
                          refine ⟨r3, rfl, ?_⟩
                          refine ⟨F, ?_⟩
                          refine cnd_imp T (fun T => ?_) (fun T => ?_)
                          · refine ⟨F, ?_⟩
                            exact ⟨_, Y.pick [] rfl, rfl, T⟩
                          · refine ⟨b_4, 0, hb_3, q_8, q_9, ?_⟩
                            refine ⟨_, Y0.cellS 8 rfl hb_3 (t := 1) hx_3 rfl, ?_⟩
                            refine ⟨b_5, 0, hb_4, q_10, q_11, ?_⟩
                            refine ⟨_, Y0.cellS 5 rfl hb_4 (t := 1) hx_4 rfl, ?_⟩
                            refine callX_sy (T _ (Hp.nil _)) (fun _ _ ⟨_, p, _⟩ => p.fr) (allc (fun h => by cases h) alln) ?_
                            rintro v9 hv13 ⟨r4, PP, rfl, T⟩
                            have F : Fr _ _ hv13 := F.trans PP.fr.nil
                            have fshv13 := F.size
                            have Y : Sy _ _ hv13 [_, _, _, _, _, _, _, _, _] := Y.gr PP.fr
                            clear PP
                            refine ⟨r4, rfl, ?_⟩
                            refine ⟨F, ?_⟩
                            refine cnd_imp T (fun T => ?_) (fun T => ?_)
                            · exact ⟨_, Y.pick [] rfl, rfl, T⟩
                            · exact hK2 _ ⟨_, Y.pick [0, 1, 2, 3, 4, 5, 6, 7, 8] rfl, T⟩
                        · refine ⟨F, ?_⟩
                          refine ⟨F, ?_⟩
                          exact hK2 _ ⟨_, Y.pick [0, 1, 2, 3, 4, 5, 6, 7, 8] rfl, T⟩
                      · refine callX_sy (T _ _ _ _ _ _ _ _ _ _ (((Y.turn 5 rfl To.slvw).turn 0 rfl To.slvw).pick [1, 5, 0] rfl).hp) (fun _ _ ⟨_, _, _, _, _, p, _⟩ => p.fr) (allc (fun h => by cases h) alln) ?_
                        rintro v10 hv15 ⟨raA4, raL4, raC4, ra_5, rb4, PP, rfl, T⟩
                        have Y : Sy _ _ hv15 [_, _, _, _, _, _, _, _, _, _] := Y.callV PP ⟨rfl, trivial⟩
                        clear PP
                        obtain rfl := Y.lenS 9 rfl
                        refine ⟨_, _, _, rb4, rfl, ?_⟩
                        refine callX_sy (T _ _ _ _ _ _ _ _ _ _ ((Y.turn 5 rfl To.slvw).pick [1, 5, 3] rfl).hp) (fun _ _ ⟨_, _, _, _, _, p, _⟩ => p.fr) (allc (fun h => by cases h) alln) ?_
                        rintro v11 hv16 ⟨raA5, raL5, raC5, ra_6, rb5, PP, rfl, T⟩
                        have Y : Sy _ _ hv16 [_, _, _, _, _, _, _, _, _, _, _] := Y.callV PP ⟨rfl, trivial⟩
                        clear PP
                        obtain rfl := Y.lenS 10 rfl
                        refine ⟨_, _, _, rb5, rfl, ?_⟩
                        obtain ⟨Jv_3, T0, T1⟩ := T
                        obtain ⟨B_4, hB_4, _⟩ := Y.cut [] [0, 1, 2, 3, 4, 5, 6, 7, 8, 9, 10] rfl
                        intro K3
                        have hK3 : ∀  (hv20 : Heap), (Sy h [] hv20 ([] ++ B_4) ∧ Jv_3) → K3 hv20 := by
                          subst hB_4
                          clear T0 Y
                          rintro hv20 ⟨Y, T⟩
                          replace T := T1 T
                          have Y : Sy _ _ _ [_, _, _, _, _, _, _, _, _, _, _] := Y
                          unfold K3
                          exact ⟨_, Y.pick [] rfl, rfl, T⟩
                        subst hB_4
                        replace T := T0
                        clear T0 T1
                        refine cnd_imp T (fun T => ?_) (fun T => ?_)
                        · refine cnd_imp T (fun T => ?_) (fun T => ?_)
                          · refine cnd_imp T (fun T => ?_) (fun T => ?_)
                            · refine cnd_imp T (fun T => ?_) (fun T => ?_)
                              · refine callX_sy (T _ _ _ _ _ _ _ (((Y.turn 7 rfl To.slvw).turn 8 rfl To.slvw).pick [7, 8] rfl).hp) (fun _ _ ⟨_, p, _⟩ => p.fr) (allc (fun h => by cases h) alln) ?_
                                rintro v12 hv17 ⟨r5, PP, rfl, T⟩
                                have Y : Sy _ _ hv17 [_, _, _, _, _, _, _, _, _, _, _] := Y.gr PP.fr
                                clear PP
                                refine ⟨r5, rfl, ?_⟩
                                refine cnd_imp T (fun T => ?_) (fun T => ?_)
                                · refine callX_sy (T _ _ _ _ _ _ _ (((Y.turn 9 rfl To.slvw).turn 5 rfl To.slvw).pick [9, 5] rfl).hp) (fun _ _ ⟨_, p, _⟩ => p.fr) (allc (fun h => by cases h) alln) ?_
                                  rintro v13 hv18 ⟨r6, PP, rfl, T⟩
                                  have Y : Sy _ _ hv18 [_, _, _, _, _, _, _, _, _, _, _] := Y.gr PP.fr
                                  clear PP
                                  refine ⟨r6, rfl, ?_⟩
                                  refine cnd_imp T (fun T => ?_) (fun T => ?_)
                                  · refine callX_sy (T _ _ _ _ _ _ _ (((Y.turn 10 rfl To.slvw).turn 5 rfl To.slvw).pick [10, 5] rfl).hp) (fun _ _ ⟨_, p, _⟩ => p.fr) (allc (fun h => by cases h) alln) ?_
                                    rintro v14 hv19 ⟨r7, PP, rfl, T⟩
                                    have Y : Sy _ _ hv19 [_, _, _, _, _, _, _, _, _, _, _] := Y.gr PP.fr
                                    clear PP
                                    refine ⟨r7, rfl, ?_⟩
                                    exact ⟨_, Y.pick [] rfl, rfl, T⟩
                                  · exact hK3 _ ⟨Y.pick [0, 1, 2, 3, 4, 5, 6, 7, 8, 9, 10] rfl, T⟩
                                · exact hK3 _ ⟨Y.pick [0, 1, 2, 3, 4, 5, 6, 7, 8, 9, 10] rfl, T⟩
                              · exact hK3 _ ⟨Y.pick [0, 1, 2, 3, 4, 5, 6, 7, 8, 9, 10] rfl, T⟩
                            · exact hK3 _ ⟨Y.pick [0, 1, 2, 3, 4, 5, 6, 7, 8, 9, 10] rfl, T⟩
                          · exact hK3 _ ⟨Y.pick [0, 1, 2, 3, 4, 5, 6, 7, 8, 9, 10] rfl, T⟩
                        · exact hK3 _ ⟨Y.pick [0, 1, 2, 3, 4, 5, 6, 7, 8, 9, 10] rfl, T⟩

/-- tracery/tracerylaw28.TutteSnaps -/
def S9 (usA : Option Addr) (usL usC : Nat) (nsA : Option Addr) (nsL nsC : Nat) (h : Heap) (R : Value → Heap → Prop) : Prop :=
  callX Try.prog 42 #[] h [] fun v hv =>
  ∃ r : Bool, v = .bool r ∧
  cnd (!r)
    (R (.bool false) hv)
    (callX Try.prog 44 #[.slice usA usL usC] hv [] fun v2 hv2 =>
    ∃ (rA : Option Addr) (rL rC : Nat), v2 = .slice rA rL rC ∧
    callX Try.prog 48 #[.slice rA rL rC, .float .f64 4607182418800017408] hv2 [] fun v3 hv3 =>
    ∃ (raA : Option Addr) (raL raC : Nat), ∃ rb : Int, v3 = .tuple #[.slice raA raL raC, .int .i64 rb] ∧
    ∃ Jv : List Value → Heap → Prop, -- join 23 []
    ( cnd (rb == (0 : Int))
       (cnd (((raL : Nat) : Int) != ((rL : Nat) : Int))
         (R (.bool false) hv3)
         (∃ (Iv : List Value → Heap → Prop) (m : List Value → Heap → Nat), Iv [.int .i64 0] hv3 ∧ -- loop 0: ['i']
         ∀ i : Int, ∀ hv4, Iv [.int .i64 i] hv4 →
         cnd (decide (i < ((raL : Nat) : Int)))
           (∃ b o, raA = some ⟨b, o, none⟩ ∧ 0 ≤ i ∧ i < (raL : Nat) ∧ ∃ x : Int, hcell hv4 b (o + (Int.toNat i) * 2) = some (.int .i64 x) ∧ ∃ b2 o2, rA = some ⟨b2, o2, none⟩ ∧ 0 ≤ i ∧ i < (rL : Nat) ∧ ∃ x2 : Nat, hcell hv4 b2 (o2 + (Int.toNat i) * 2) = some (.float .f64 x2) ∧ ∀ r2, FRes .f64 ((FloatKind.f64).nearest x) x2 ((FloatKind.f64).format.sub ((FloatKind.f64).nearest x) x2) r2 → Fr [] hv4 hv4 ∧
           callX Try.prog 56 #[.float .f64 r2] hv4 [] fun v4 hv5 =>
           ∃ r3 : Nat, v4 = .float .f64 r3 ∧
           Fr [] hv4 hv5 ∧
           cnd ((FloatKind.f64).format.order r3 4602678819172646912 == some .gt)
             (Fr [] hv4 hv5 ∧
             Fr [] hv4 hv5 ∧
             R (.bool false) hv5)
             (∃ b3 o3, raA = some ⟨b3, o3, none⟩ ∧ 0 ≤ i ∧ i < (raL : Nat) ∧ ∃ x3 : Int, hcell hv4 b3 ((o3 + (Int.toNat i) * 2) + 1) = some (.int .i64 x3) ∧ ∃ b4 o4, rA = some ⟨b4, o4, none⟩ ∧ 0 ≤ i ∧ i < (rL : Nat) ∧ ∃ x4 : Nat, hcell hv4 b4 ((o4 + (Int.toNat i) * 2) + 1) = some (.float .f64 x4) ∧ ∀ r4, FRes .f64 ((FloatKind.f64).nearest x3) x4 ((FloatKind.f64).format.sub ((FloatKind.f64).nearest x3) x4) r4 → Fr [] hv4 hv5 ∧
             callX Try.prog 56 #[.float .f64 r4] hv5 [] fun v5 hv6 =>
             ∃ r5 : Nat, v5 = .float .f64 r5 ∧
             Fr [] hv4 hv6 ∧
             cnd ((FloatKind.f64).format.order r5 4602678819172646912 == some .gt)
               (R (.bool false) hv6)
               (Iv [.int .i64 (IntKind.i64.wrap (i + (1 : Int)))] hv6 ∧ m [.int .i64 (IntKind.i64.wrap (i + (1 : Int)))] hv6 < m [.int .i64 i] hv4)))
           (Jv [] hv4)))
       (Jv [] hv3)) ∧
    ∀ hv7, Jv [] hv7 →
    let K := fun (lA2 : Option Addr) (lL2 lC2 : Nat) (hv11 : Heap) =>
      (callX Try.prog 48 #[.slice lA2 lL2 lC2, .float .f64 4611686018427387904] hv11 [] fun v6 hv12 =>
      ∃ (raA2 : Option Addr) (raL2 raC2 : Nat), ∃ rb2 : Int, v6 = .tuple #[.slice raA2 raL2 raC2, .int .i64 rb2] ∧
      cnd (rb2 != (0 : Int))
        (R (.bool false) hv12)
        (cnd (((raL2 : Nat) : Int) != ((lL2 : Nat) : Int))
          (R (.bool false) hv12)
          (∃ (Iv3 : List Value → Heap → Prop) (m3 : List Value → Heap → Nat), Iv3 [.int .i64 0] hv12 ∧ -- loop 4: ['i']
          ∀ i3 : Int, ∀ hv13, Iv3 [.int .i64 i3] hv13 →
          cnd (decide (i3 < ((raL2 : Nat) : Int)))
            (∃ b7 o7, raA2 = some ⟨b7, o7, none⟩ ∧ 0 ≤ i3 ∧ i3 < (raL2 : Nat) ∧ ∃ x7 : Int, hcell hv13 b7 (o7 + (Int.toNat i3) * 2) = some (.int .i64 x7) ∧ ∃ x8 : Int, hcell hv13 b7 ((o7 + (Int.toNat i3) * 2) + 1) = some (.int .i64 x8) ∧ ∃ b8 o8, nsA = some ⟨b8, o8, none⟩ ∧ 0 ≤ i3 ∧ i3 < (nsL : Nat) ∧ ∃ x9 : Int, hcell hv13 b8 (o8 + (Int.toNat i3) * 1) = some (.int .i16 x9) ∧ ∃ b9 o9, nsA = some ⟨b9, o9, none⟩ ∧ 0 ≤ i3 ∧ i3 < (nsL : Nat) ∧ ∃ x10 : Int, hcell hv13 b9 (o9 + (Int.toNat i3) * 1) = some (.int .i16 x10) ∧ cnd (!((x7 == (IntKind.i64.wrap ((2 : Int) * (IntKind.i64.wrap x9)))) && (x8 == (IntKind.i64.wrap x10))))
              (R (.bool false) hv13)
              (Iv3 [.int .i64 (IntKind.i64.wrap (i3 + (1 : Int)))] hv13 ∧ m3 [.int .i64 (IntKind.i64.wrap (i3 + (1 : Int)))] hv13 < m3 [.int .i64 i3] hv13))
            (R (.bool true) hv13))))
    ∃ (Iv2 : List Value → Heap → Prop) (m2 : List Value → Heap → Nat), Iv2 [.slice none 0 0, .int .i64 0] hv7 ∧ -- loop 2: ['l', 'i']
    ∀ (lA : Option Addr) (lL lC : Nat), ∀ i2 : Int, ∀ hv8, Iv2 [.slice lA lL lC, .int .i64 i2] hv8 →
    cnd (decide (i2 < ((nsL : Nat) : Int)))
      (cnd (decide (i2 < (100 : Int)))
        (∃ Mv : List Nat, (∀ b ∈ ([] : List Nat), b ∉ Mv) ∧
        ∃ b5 o5, nsA = some ⟨b5, o5, none⟩ ∧ 0 ≤ i2 ∧ i2 < (nsL : Nat) ∧ b5 ∉ Mv ∧ ∃ x5 : Int, hcell hv8 b5 (o5 + (Int.toNat i2) * 1) = some (.int .i16 x5) ∧ ∃ b6 o6, nsA = some ⟨b6, o6, none⟩ ∧ 0 ≤ i2 ∧ i2 < (nsL : Nat) ∧ b6 ∉ Mv ∧ ∃ x6 : Int, hcell hv8 b6 (o6 + (Int.toNat i2) * 1) = some (.int .i16 x6) ∧ ∀ r6, FRes .f64 ((FloatKind.f64).nearest x6) 4611686018427387904 ((FloatKind.f64).format.div ((FloatKind.f64).nearest x6) 4611686018427387904) r6 → Fr Mv hv8 hv8 ∧
        let hv9 : Heap := hv8.push (.cells #[.float .f64 ((FloatKind.f64).nearest x5), .float .f64 r6] 56)
        Fr Mv hv8 hv9 ∧
        ∃ old, Own hv9 56 2 lA lL lC old ∧ (∀ b ∈ ([hv8.size] : List Nat), b ∉ blkOf lA) ∧ (lL + 1) * 16 ≤ 140737488355328 ∧ (lL + 1) ≤ maxLen ∧
        ∀ sA sC hv10, Own hv10 56 2 sA (lL + 1) sC (old ++ [.float .f64 ((FloatKind.f64).nearest x5), .float .f64 r6]) → Fr (blkOf lA) hv9 hv10 → ((sA = lA ∧ sC = lC) ∨ ∃ g, sA = some ⟨g, 0, none⟩ ∧ hv9.size ≤ g) →
        Fr Mv hv8 hv10 ∧
        Iv2 [.slice sA (lL + 1) sC, .int .i64 (IntKind.i64.wrap (i2 + (1 : Int)))] hv10 ∧ m2 [.slice sA (lL + 1) sC, .int .i64 (IntKind.i64.wrap (i2 + (1 : Int)))] hv10 < m2 [.slice lA lL lC, .int .i64 i2] hv8)
        (K lA lL lC hv8))
      (K lA lL lC hv8))

theorem calls9 {h : Heap} {R : Value → Heap → Prop} (usA : Option Addr) (usL usC : Nat) (nsA : Option Addr) (nsL nsC : Nat) (H : S9 usA usL usC nsA nsL nsC h R) : CallsH Try.prog 9 #[.slice usA usL usC, .slice nsA nsL nsC] h R := by
  have e : S9 usA usL usC nsA nsL nsC h R = FX (envX [88] 127) { loops := [(0, ⟨[1, 5, 6], [8], [], []⟩), (2, ⟨[1], [9, 10], [], []⟩), (4, ⟨[1, 11], [12], [], []⟩)], joins := [(23, ⟨[1], [], [], []⟩)], blocks := [], draws := [(11, ⟨30, false⟩), (17, ⟨16, true⟩), (24, ⟨17, false⟩)] } Try.f9 (Try.f9.body.getD .skip) [.slice usA usL usC, .slice nsA nsL nsC] h R := by kernel_rfl
  exact calls_of_FX (envX_ok _ _) Try.func9 (by kernel_rfl) (by kernel_rfl) (by kernel_rfl) (e ▸ H)

/-- tracery/tracerylaw28.TutteSnaps -/
def Ok9 (usV : List Int) (nsV : List Int) (R : Bool → Prop) : Prop :=
  ∀ (h : Heap) (usA : Option Addr) (usL usC : Nat) (nsA : Option Addr) (nsL nsC : Nat), Hp h [Ck.vw (eK .u64) usA usL usC usV, Ck.vw (eK .i16) nsA nsL nsC nsV] → CallsH Try.prog 9 #[.slice usA usL usC, .slice nsA nsL nsC] h fun v h' => ∃ (rV : Bool), Sy h [] h' [] ∧ v = .bool rV ∧ R rV
theorem Ok9.mono {usV nsV} {R R' : Bool → Prop} (H : Ok9 usV nsV R) (kz : ∀ rV, R rV → R' rV) : Ok9 usV nsV R' :=
  fun h usA usL usC nsA nsL nsC hp => (H h usA usL usC nsA nsL nsC hp).mono fun _ _ ⟨rV, P, e, q⟩ => ⟨rV, P, e, kz _ q⟩

def T9 (usV : List Int) (nsV : List Int) (R : Bool → Prop) : Prop :=
  Ok42 (fun r =>
  cnd (!r)
    (R false)
    (Ok44 usV (fun r_2 =>
    Ok48 r_2 4607182418800017408 (fun ra rb =>
    ∃ Jv : Prop,
    ( cnd (rb == (0 : Int))
       (cnd (((ra.length : Nat) : Int) != ((r_2.length : Nat) : Int))
         (R false)
         (∃ (Iv : Int → Prop) (m : Int → Nat), Iv 0 ∧
         ∀ i : Int, Iv i →
         cnd (decide (i < ((ra.length : Nat) : Int)))
           (0 ≤ i ∧ i < ((ra.length : Nat) : Int) ∧ ∀ ra_2 : (Int × Int), ra[(Int.toNat i)]? = some ra_2 → 0 ≤ i ∧ i < ((r_2.length : Nat) : Int) ∧ ∀ r_3 : (Nat × Nat), r_2[(Int.toNat i)]? = some r_3 → ∀ r2 : Nat, FRes .f64 ((FloatKind.f64).nearest ra_2.1) r_3.1 ((FloatKind.f64).format.sub ((FloatKind.f64).nearest ra_2.1) r_3.1) r2 → Ok56 r2 (fun r3 =>
           cnd ((FloatKind.f64).format.order r3 4602678819172646912 == some .gt)
             (R false)
             (∀ r4 : Nat, FRes .f64 ((FloatKind.f64).nearest ra_2.2) r_3.2 ((FloatKind.f64).format.sub ((FloatKind.f64).nearest ra_2.2) r_3.2) r4 → Ok56 r4 (fun r5 =>
             cnd ((FloatKind.f64).format.order r5 4602678819172646912 == some .gt)
               (R false)
               (Iv (IntKind.i64.wrap (i + (1 : Int))) ∧ m (IntKind.i64.wrap (i + (1 : Int))) < m i)))))
           (Jv)))
       (Jv)) ∧
    (Jv →
    ∃ Jv_2 : List (Nat × Nat) → Prop,
    ( ∃ (Iv2 : List (Nat × Nat) → Int → Prop) (m2 : List (Nat × Nat) → Int → Nat), Iv2 ([] : List (Nat × Nat)) 0 ∧
     ∀ l_2 : List (Nat × Nat), ∀ i2 : Int, Iv2 l_2 i2 →
     cnd (decide (i2 < ((nsV.length : Nat) : Int)))
       (cnd (decide (i2 < (100 : Int)))
         (0 ≤ i2 ∧ i2 < ((nsV.length : Nat) : Int) ∧ ∀ ns_2 : Int, nsV[(Int.toNat i2)]? = some ns_2 → ∀ r6 : Nat, FRes .f64 ((FloatKind.f64).nearest ns_2) 4611686018427387904 ((FloatKind.f64).format.div ((FloatKind.f64).nearest ns_2) 4611686018427387904) r6 → (l_2.length + 1) < 1000000000000 ∧ Iv2 (l_2 ++ [(((FloatKind.f64).nearest ns_2), r6)]) (IntKind.i64.wrap (i2 + (1 : Int))) ∧ m2 (l_2 ++ [(((FloatKind.f64).nearest ns_2), r6)]) (IntKind.i64.wrap (i2 + (1 : Int))) < m2 l_2 i2)
         (Jv_2 l_2))
       (Jv_2 l_2)) ∧
    ∀ l : List (Nat × Nat), Jv_2 l →
    Ok48 l 4611686018427387904 (fun ra_3 rb2 =>
    cnd (rb2 != (0 : Int))
      (R false)
      (cnd (((ra_3.length : Nat) : Int) != ((l.length : Nat) : Int))
        (R false)
        (∃ (Iv3 : Int → Prop) (m3 : Int → Nat), Iv3 0 ∧
        ∀ i3 : Int, Iv3 i3 →
        cnd (decide (i3 < ((ra_3.length : Nat) : Int)))
          (0 ≤ i3 ∧ i3 < ((ra_3.length : Nat) : Int) ∧ ∀ ra_4 : (Int × Int), ra_3[(Int.toNat i3)]? = some ra_4 → 0 ≤ i3 ∧ i3 < ((nsV.length : Nat) : Int) ∧ ∀ ns : Int, nsV[(Int.toNat i3)]? = some ns → cnd (!((ra_4.1 == (IntKind.i64.wrap ((2 : Int) * (IntKind.i64.wrap ns)))) && (ra_4.2 == (IntKind.i64.wrap ns))))
            (R false)
            (Iv3 (IntKind.i64.wrap (i3 + (1 : Int))) ∧ m3 (IntKind.i64.wrap (i3 + (1 : Int))) < m3 i3))
          (R true)))))))))

theorem ok9 {usV nsV} {R : Bool → Prop} (T : T9 usV nsV R) : Ok9 usV nsV R := by
  intro h usA usL usC nsA nsL nsC H
  have Y : Sy h [] h _ := Sy.startM H rfl
  obtain rfl := Y.lenV 0 rfl
  obtain rfl := Y.lenV 1 rfl
  apply calls9
  unfold S9
  unfold T9 at T
  refine callX_sy (T _ (Hp.nil _)) (fun _ _ ⟨_, p, _⟩ => p.fr) alln ?_
  rintro v hv ⟨r, PP, rfl, T⟩
  have Y : Sy _ _ hv [_, _] := Y.gr PP.fr
  clear PP
  refine ⟨r, rfl, ?_⟩
  refine cnd_imp T (fun T => ?_) (fun T => ?_)
  · exact ⟨_, Y.pick [] rfl, rfl, T⟩
  · refine callX_sy (T _ _ _ _ (Y.pick [0] rfl).hp) (fun _ _ ⟨_, _, _, _, p, _⟩ => p.fr) alln ?_
    rintro v2 hv2 ⟨rA, rL, rC, r_2, PP, rfl, T⟩
    have Y : Sy _ _ hv2 [_, _, _] := Y.callV PP ⟨rfl, trivial⟩
    clear PP
    obtain rfl := Y.lenS 2 rfl
    refine ⟨_, _, _, rfl, ?_⟩
    refine callX_sy (T _ _ _ _ ((Y.turn 2 rfl To.slvw).pick [2] rfl).hp) (fun _ _ ⟨_, _, _, _, _, p, _⟩ => p.fr) alln ?_
    rintro v3 hv3 ⟨raA, raL, raC, ra, rb, PP, rfl, T⟩
    have Y : Sy _ _ hv3 [_, _, _, _] := Y.callV PP ⟨rfl, trivial⟩
    clear PP
    obtain rfl := Y.lenS 3 rfl
    refine ⟨_, _, _, rb, rfl, ?_⟩
    obtain ⟨Jv, T0, T1⟩ := T
    obtain ⟨B, hB, _⟩ := Y.cut [] [0, 1, 2, 3] rfl
    refine ⟨fun lz h' => lz = [] ∧ Sy h [] h' ([] ++ B) ∧ Jv, ?_, ?_⟩
    · subst hB
      replace T := T0
      clear T0 T1
      refine cnd_imp T (fun T => ?_) (fun T => ?_)
      · refine cnd_imp T (fun T => ?_) (fun T => ?_)
        · exact ⟨_, Y.pick [] rfl, rfl, T⟩
        · obtain ⟨Iv, m, T0, T1⟩ := T
          obtain ⟨B_2, hB_2, YB⟩ := Y.cut [] [0, 1, 2, 3] rfl
          obtain ⟨JJ, hJJ⟩ : ∃ JJ : Nat → List Value → Heap → Prop, JJ = (fun k lz h' => ∃ (i : Int), lz = [.int .i64 i] ∧ Sy h [] h' ([] ++ B_2) ∧ Iv i ∧ m i = k) := ⟨_, rfl⟩
          refine ⟨fun lz h' => ∃ k, JJ k lz h', Lm JJ, ?_, ?_⟩
          · subst hJJ hB_2
            exact ⟨_, _, rfl, YB, T0, rfl⟩
          · clear YB T0 Y
            intro i hv4 hI
            obtain ⟨k, hI, hm⟩ := loopIn hI
            subst hJJ hB_2
            obtain ⟨i, e, Y, T, rfl⟩ := hI
            cases e
            replace T := T1 i T
            have Y : Sy _ _ _ [_, _, _, _] := Y
            refine cnd_imp T (fun T => ?_) (fun T => ?_)
            · have Y0 := Y
              have F : Fr [] hv4 hv4 := Fr.refl _ _
              obtain ⟨q, q_2, T⟩ := T
              obtain ⟨b_2, hb, ho, ra_2, hx⟩ := Y0.atS 3 rfl q q_2
              refine ⟨b_2, 0, hb, q, q_2, ?_⟩
              replace T := T ra_2 hx
              refine ⟨_, Y0.cellS 3 rfl hb (t := 0) hx rfl, ?_⟩
              obtain ⟨q_3, q_4, T⟩ := T
              obtain ⟨b_3, hb_2, ho_2, r_3, hx_2⟩ := Y0.atS 2 rfl q_3 q_4
              refine ⟨b_3, 0, hb_2, q_3, q_4, ?_⟩
              replace T := T r_3 hx_2
              refine ⟨_, Y0.cellS 2 rfl hb_2 (t := 0) hx_2 rfl, ?_⟩
              intro r2 hq
              replace T := T r2 hq
              refine ⟨F, ?_⟩
              refine callX_sy (T _ (Hp.nil _)) (fun _ _ ⟨_, p, _⟩ => p.fr) alln ?_
              rintro v4 hv5 ⟨r3, PP, rfl, T⟩
              have F : Fr _ _ hv5 := F.trans PP.fr.nil
              have fshv5 := F.size
              have Y : Sy _ _ hv5 [_, _, _, _] := Y.gr PP.fr
              clear PP
              refine ⟨r3, rfl, ?_⟩
              refine ⟨F, ?_⟩
              refine cnd_imp T (fun T => ?_) (fun T => ?_)
              · refine ⟨F, ?_⟩
                refine ⟨F, ?_⟩
                exact ⟨_, Y.pick [] rfl, rfl, T⟩
              · refine ⟨b_2, 0, hb, q, q_2, ?_⟩
                refine ⟨_, Y0.cellS 3 rfl hb (t := 1) hx rfl, ?_⟩
                refine ⟨b_3, 0, hb_2, q_3, q_4, ?_⟩
                refine ⟨_, Y0.cellS 2 rfl hb_2 (t := 1) hx_2 rfl, ?_⟩
                intro r4 hq
                replace T := T r4 hq
                refine ⟨F, ?_⟩
                refine callX_sy (T _ (Hp.nil _)) (fun _ _ ⟨_, p, _⟩ => p.fr) alln ?_
                rintro v5 hv6 ⟨r5, PP, rfl, T⟩
                have F : Fr _ _ hv6 := F.trans PP.fr.nil
                have fshv6 := F.size
                have Y : Sy _ _ hv6 [_, _, _, _] := Y.gr PP.fr
                clear PP
                refine ⟨r5, rfl, ?_⟩
                refine ⟨F, ?_⟩
                refine cnd_imp T (fun T => ?_) (fun T => ?_)
                · exact ⟨_, Y.pick [] rfl, rfl, T⟩
                · exact loopBack hm ⟨_, rfl, Y.pick [0, 1, 2, 3] rfl, T.1, rfl⟩ T.2
            · exact ⟨rfl, Y.pick [0, 1, 2, 3] rfl, T⟩
      · exact ⟨rfl, Y.pick [0, 1, 2, 3] rfl, T⟩
    · subst hB
      clear T0 Y
      rintro hv7 ⟨e, Y, T⟩
      cases e
      replace T := T1 T
      have Y : Sy _ _ _ [_, _, _, _] := Y
      obtain ⟨Jv_2, T0, T1⟩ := T
      obtain ⟨B_3, hB_3, _⟩ := Y.cut [] [0, 1, 2, 3] rfl
      intro K
      have hK : ∀ (lA2 : Option Addr) (lL2 lC2 : Nat) (hv11 : Heap), (∃ (l : List (Nat × Nat)), Sy h [] hv11 ([Ck.sl eFF 56 lA2 lL2 lC2 l] ++ B_3) ∧ Jv_2 l) → K lA2 lL2 lC2 hv11 := by
        subst hB_3
        clear T0 Y
        rintro lA2 lL2 lC2 hv11 ⟨l, Y, T⟩
        obtain rfl := Y.lenS 0 rfl
        replace T := T1 l T
        have Y : Sy _ _ _ [_, _, _, _, _] := Y
        unfold K
        refine callX_sy (T _ _ _ _ ((Y.turn 0 rfl To.slvw).pick [0] rfl).hp) (fun _ _ ⟨_, _, _, _, _, p, _⟩ => p.fr) alln ?_
        rintro v6 hv12 ⟨raA2, raL2, raC2, ra_3, rb2, PP, rfl, T⟩
        have Y : Sy _ _ hv12 [_, _, _, _, _, _] := Y.callV PP ⟨rfl, trivial⟩
        clear PP
        obtain rfl := Y.lenS 5 rfl
        refine ⟨_, _, _, rb2, rfl, ?_⟩
        refine cnd_imp T (fun T => ?_) (fun T => ?_)
        · exact ⟨_, Y.pick [] rfl, rfl, T⟩
        · refine cnd_imp T (fun T => ?_) (fun T => ?_)
          · exact ⟨_, Y.pick [] rfl, rfl, T⟩
          · obtain ⟨Iv3, m3, T0, T1⟩ := T
            obtain ⟨B_4, hB_4, YB⟩ := Y.cut [] [0, 1, 2, 3, 4, 5] rfl
            obtain ⟨JJ_2, hJJ_2⟩ : ∃ JJ_2 : Nat → List Value → Heap → Prop, JJ_2 = (fun k_2 lz h' => ∃ (i3 : Int), lz = [.int .i64 i3] ∧ Sy h [] h' ([] ++ B_4) ∧ Iv3 i3 ∧ m3 i3 = k_2) := ⟨_, rfl⟩
            refine ⟨fun lz h' => ∃ k_2, JJ_2 k_2 lz h', Lm JJ_2, ?_, ?_⟩
            · subst hJJ_2 hB_4
              exact ⟨_, _, rfl, YB, T0, rfl⟩
            · clear YB T0 Y
              intro i3 hv13 hI
              obtain ⟨k_2, hI, hm_2⟩ := loopIn hI
              subst hJJ_2 hB_4
              obtain ⟨i3, e, Y, T, rfl⟩ := hI
              cases e
              replace T := T1 i3 T
              have Y : Sy _ _ _ [_, _, _, _, _, _] := Y
              refine cnd_imp T (fun T => ?_) (fun T => ?_)
              · have Y0 := Y
                have F : Fr [] hv13 hv13 := Fr.refl _ _
                obtain ⟨q_5, q_6, T⟩ := T
                obtain ⟨b_4, hb_3, ho_3, ra_4, hx_3⟩ := Y0.atS 5 rfl q_5 q_6
                refine ⟨b_4, 0, hb_3, q_5, q_6, ?_⟩
                replace T := T ra_4 hx_3
                refine ⟨_, Y0.cellS 5 rfl hb_3 (t := 0) hx_3 rfl, ?_⟩
                refine ⟨_, Y0.cellS 5 rfl hb_3 (t := 1) hx_3 rfl, ?_⟩
                obtain ⟨q_7, q_8, T⟩ := T
                obtain ⟨b_5, o_2, hb_4, hr, ns, hx_4⟩ := Y0.atV 2 rfl q_7 q_8
                refine ⟨b_5, o_2, hb_4, q_7, q_8, ?_⟩
                replace T := T ns hx_4
                refine ⟨_, Y0.cellV 2 rfl hb_4 (t := 0) hx_4 rfl, ?_⟩
                refine ⟨b_5, o_2, hb_4, q_7, q_8, ?_⟩
                refine ⟨_, Y0.cellV 2 rfl hb_4 (t := 0) hx_4 rfl, ?_⟩
                refine cnd_imp T (fun T => ?_) (fun T => ?_)
                · exact ⟨_, Y.pick [] rfl, rfl, T⟩
                · exact loopBack hm_2 ⟨_, rfl, Y.pick [0, 1, 2, 3, 4, 5] rfl, T.1, rfl⟩ T.2
              · exact ⟨_, Y.pick [] rfl, rfl, T⟩
      subst hB_3
      replace T := T0
      clear T0 T1
      have Y : Sy _ _ _ [_, _, _, _, _] := Y.nilS eFF 56
      obtain ⟨Iv2, m2, T0, T1⟩ := T
      obtain ⟨B_5, hB_5, YB⟩ := Y.cut [4] [0, 1, 2, 3] rfl
      obtain ⟨JJ_3, hJJ_3⟩ : ∃ JJ_3 : Nat → List Value → Heap → Prop, JJ_3 = (fun k_3 lz h' => ∃ (lA : Option Addr) (lL lC : Nat) (l_2 : List (Nat × Nat)) (i2 : Int), lz = [.slice lA lL lC, .int .i64 i2] ∧ Sy h [] h' ([Ck.sl eFF 56 lA lL lC l_2] ++ B_5) ∧ Iv2 l_2 i2 ∧ m2 l_2 i2 = k_3) := ⟨_, rfl⟩
      refine ⟨fun lz h' => ∃ k_3, JJ_3 k_3 lz h', Lm JJ_3, ?_, ?_⟩
      · subst hJJ_3 hB_5
        exact ⟨_, _, _, _, _, _, rfl, YB, T0, rfl⟩
      · clear YB T0 Y
        intro lA lL lC i2 hv8 hI
        obtain ⟨k_3, hI, hm_3⟩ := loopIn hI
        subst hJJ_3 hB_5
        obtain ⟨lA, lL, lC, l_2, i2, e, Y, T, rfl⟩ := hI
        cases e
        obtain rfl := Y.lenS 0 rfl
        replace T := T1 l_2 i2 T
        have Y : Sy _ _ _ [_, _, _, _, _] := Y
        refine cnd_imp T (fun T => ?_) (fun T => ?_)
        · refine cnd_imp T (fun T => ?_) (fun T => ?_)
          · have Y0 := Y
            obtain ⟨Mx, hMx⟩ := Y.mt [0] []
            refine ⟨Mx, ?_⟩
            subst hMx
            refine ⟨alln, ?_⟩
            have F : Fr _ hv8 hv8 := Y0.frM [0] []
            obtain ⟨q_9, q_10, T⟩ := T
            obtain ⟨b_6, o_3, hb_5, hr_2, ns_2, hx_5⟩ := Y0.atV 2 rfl q_9 q_10
            refine ⟨b_6, o_3, hb_5, q_9, q_10, ?_⟩
            refine ⟨(Y0.nMv 2 [0] [] rfl rfl hr_2), ?_⟩
            replace T := T ns_2 hx_5
            refine ⟨_, Y0.cellV 2 rfl hb_5 (t := 0) hx_5 rfl, ?_⟩
            refine ⟨b_6, o_3, hb_5, q_9, q_10, ?_⟩
            refine ⟨(Y0.nMv 2 [0] [] rfl rfl hr_2), ?_⟩
            refine ⟨_, Y0.cellV 2 rfl hb_5 (t := 0) hx_5 rfl, ?_⟩
            intro r6 hq
            replace T := T r6 hq
            refine ⟨F, ?_⟩
            intro hv9
            have Y : Sy _ _ hv9 [_, _, _, _, _, _] := Y.junk _
            have F : Fr _ _ hv9 := F.pushr _
            have fshv9 := F.size
            clear_value hv9
            refine ⟨F, ?_⟩
            obtain ⟨q_11, T⟩ := T
            refine ⟨_, Y.ownS 0 rfl, (allc (Y.nJ 0 5 rfl rfl rfl) alln), by omega, by simp [maxLen]; omega, ?_⟩
            intro sA sC hv10 ow fA gA
            have Y : Sy _ _ hv10 [_, _, _, _, _, _] := Y.appS 0 rfl ([(((FloatKind.f64).nearest ns_2), r6)] : List (Nat × Nat)) ow fA gA rfl rfl
            have ns_3 := F.appIn (Y0.inMo 0 [0] [] rfl rfl) gA fshv9
            have F : Fr _ _ hv10 := F.comp fA (Y0.inMo 0 [0] [] rfl rfl)
            have fshv10 := F.size
            refine ⟨F, ?_⟩
            exact loopBack hm_3 ⟨_, _, _, _, _, rfl, Y.pick [0, 1, 2, 3, 4] rfl, T.1, rfl⟩ T.2
          · exact hK _ _ _ _ ⟨_, Y.pick [0, 1, 2, 3, 4] rfl, T⟩
        · exact hK _ _ _ _ ⟨_, Y.pick [0, 1, 2, 3, 4] rfl, T⟩

/-- tracery/tracerylaw28.TutteLight -/
def S10 (n : Int) (k : Int) (h : Heap) (R : Value → Heap → Prop) : Prop :=
  callX Try.prog 42 #[] h [] fun v hv =>
  ∃ r : Bool, v = .bool r ∧
  cnd (!r)
    (R (.bool false) hv)
    (let K := fun (hv2 : Heap) =>
      (R (.bool true) hv2)
    cnd (decide (n < (1 : Int)))
      (K hv)
      (cnd (decide (n > (1024 : Int)))
        (K hv)
        (cnd (decide (k < (0 : Int)))
          (R (.bool true) hv)
          (let hv3 : Heap := hv.push (.cells #[.int .i64 0, .slice none 0 0] 26)
          let hv4 : Heap := hset (hset hv3 hv.size 0 (.int .i64 n)) hv.size (0 + 1) (.slice none 0 0)
          ∃ (Iv : List Value → Heap → Prop) (m : List Value → Heap → Nat), Iv [.int .i64 0, .int .i64 n, .slice none 0 0] hv4 ∧ -- loop 0: ['i']
          ∀ i : Int, ∀ c0 : Int, ∀ (c1A : Option Addr) (c1L c1C : Nat), ∀ hv5, Iv [.int .i64 i, .int .i64 c0, .slice c1A c1L c1C] hv5 →
          cnd (decide (i < (3000 : Int)))
            (n ≠ 0 ∧ n ≠ 0 ∧ let hv6 : Heap := hv5.push (.cells #[.int .i64 (Int.tmod i n), .int .i64 (Int.tmod (IntKind.i64.wrap (i * (7 : Int))) n)] 35)
            Fr [] hv5 hv6 ∧
            ∃ old, Own hv6 35 2 c1A c1L c1C old ∧ (∀ b ∈ ([hv5.size, hv.size] : List Nat), b ∉ blkOf c1A) ∧ (c1L + 1) * 16 ≤ 140737488355328 ∧ (c1L + 1) ≤ maxLen ∧
            ∀ sA sC hv7, Own hv7 35 2 sA (c1L + 1) sC (old ++ [.int .i64 (Int.tmod i n), .int .i64 (Int.tmod (IntKind.i64.wrap (i * (7 : Int))) n)]) → Fr (blkOf c1A) hv6 hv7 → ((sA = c1A ∧ sC = c1C) ∨ ∃ g, sA = some ⟨g, 0, none⟩ ∧ hv6.size ≤ g) →
            let hv8 : Heap := hset hv7 hv.size 1 (.slice sA (c1L + 1) sC)
            Iv [.int .i64 (IntKind.i64.wrap (i + (1 : Int))), .int .i64 c0, .slice sA (c1L + 1) sC] hv8 ∧ m [.int .i64 (IntKind.i64.wrap (i + (1 : Int))), .int .i64 c0, .slice sA (c1L + 1) sC] hv8 < m [.int .i64 i, .int .i64 c0, .slice c1A c1L c1C] hv5)
            (let K2 := fun (hv9 : Heap) =>
              (let K3 := fun (lA : Option Addr) (lL lC : Nat) (ev : Int) (hv16 : Heap) =>
                (cnd (ev == (3 : Int))
                  (R (.bool (((lL : Nat) : Int) == (0 : Int))) hv16)
                  (R (.bool false) hv16))
              (0 ≤ n ∧ n ≤ n ∧ ((16 : Nat) : Int) * n ≤ 281474976710656 ∧ n ≤ 9223372036854775807 ∧ let hv10 : Heap := hv9.push (.cells (madeCells (List.toArray [.float .f64 0, .float .f64 0]) (Int.toNat n * 2)) 56)
              Fr [] hv9 hv10 ∧
              0 ≤ n ∧ n ≤ n ∧ ((1 : Nat) : Int) * n ≤ 281474976710656 ∧ n ≤ 9223372036854775807 ∧ let hv11 : Heap := hv10.push (.cells (madeCells (List.toArray [.bool false]) (Int.toNat n * 1)) 4)
              Fr [] hv9 hv11 ∧
              callX Try.prog 46 #[.agg #[.int .i64 c0, .slice c1A c1L c1C], .slice (some (⟨hv9.size, 0, none⟩ : Addr)) (Int.toNat n) (Int.toNat n), .slice (some (⟨hv10.size, 0, none⟩ : Addr)) (Int.toNat n) (Int.toNat n), .int .i64 k] hv11 [hv.size] fun v2 hv12 =>
              ∃ (raA : Option Addr) (raL raC : Nat), ∃ rb : Int, v2 = .tuple #[.slice raA raL raC, .int .i64 rb] ∧
              Fr [] hv9 hv12 ∧
              K3 raA raL raC rb hv12)
              ∧ ( 0 ≤ n ∧ n ≤ n ∧ ((1 : Nat) : Int) * n ≤ 281474976710656 ∧ n ≤ 9223372036854775807 ∧ let hv13 : Heap := hv9.push (.cells (madeCells (List.toArray [.bool false]) (Int.toNat n * 1)) 4)
               Fr [] hv9 hv13 ∧
               0 ≤ n ∧ n ≤ n ∧ ((16 : Nat) : Int) * n ≤ 281474976710656 ∧ n ≤ 9223372036854775807 ∧ let hv14 : Heap := hv13.push (.cells (madeCells (List.toArray [.float .f64 0, .float .f64 0]) (Int.toNat n * 2)) 56)
               Fr [] hv9 hv14 ∧
               callX Try.prog 46 #[.agg #[.int .i64 c0, .slice c1A c1L c1C], .slice (some (⟨hv13.size, 0, none⟩ : Addr)) (Int.toNat n) (Int.toNat n), .slice (some (⟨hv9.size, 0, none⟩ : Addr)) (Int.toNat n) (Int.toNat n), .int .i64 k] hv14 [hv.size] fun v3 hv15 =>
               ∃ (raA2 : Option Addr) (raL2 raC2 : Nat), ∃ rb2 : Int, v3 = .tuple #[.slice raA2 raL2 raC2, .int .i64 rb2] ∧
               Fr [] hv9 hv15 ∧
               K3 raA2 raL2 raC2 rb2 hv15))
            cnd (decide (k ≤ (4096 : Int)))
              (cnd (decide ((IntKind.i64.wrap (k * (IntKind.i64.wrap (n + (6000 : Int))))) ≤ (16777216 : Int)))
                (R (.bool true) hv5)
                (K2 hv5))
              (K2 hv5))))))

theorem calls10 {h : Heap} {R : Value → Heap → Prop} (n : Int) (k : Int) (H : S10 n k h R) : CallsH Try.prog 10 #[.int .i64 n, .int .i64 k] h R := by
  have e : S10 n k h R = FX (envX [5, 37] 66) { loops := [(0, ⟨[0, 1, 5], [6], [], [5]⟩)], joins := [], blocks := [], draws := [(9, ⟨11, false⟩), (12, ⟨12, false⟩)] } Try.f10 (Try.f10.body.getD .skip) [.int .i64 n, .int .i64 k] h R := by kernel_rfl
  exact calls_of_FX (envX_ok _ _) Try.func10 (by kernel_rfl) (by kernel_rfl) (by kernel_rfl) (e ▸ H)

/-- tracery/tracerylaw28.TutteLight -/
def Ok10 (n : Int) (k : Int) (R : Bool → Prop) : Prop :=
  ∀ (h : Heap), Hp h [] → CallsH Try.prog 10 #[.int .i64 n, .int .i64 k] h fun v h' => ∃ (rV : Bool), Sy h [] h' [] ∧ v = .bool rV ∧ R rV
theorem Ok10.mono {n k} {R R' : Bool → Prop} (H : Ok10 n k R) (kz : ∀ rV, R rV → R' rV) : Ok10 n k R' :=
  fun h  hp => (H h  hp).mono fun _ _ ⟨rV, P, e, q⟩ => ⟨rV, P, e, kz _ q⟩

def T10 (n : Int) (k : Int) (R : Bool → Prop) : Prop :=
  Ok42 (fun r =>
  cnd (!r)
    (R false)
    (∃ Jv : Prop,
    ( cnd (decide (n < (1 : Int)))
       (Jv)
       (cnd (decide (n > (1024 : Int)))
         (Jv)
         (cnd (decide (k < (0 : Int)))
           (R true)
           (∃ (Iv : Int → Int → List (Int × Int) → Prop) (m : Int → Int → List (Int × Int) → Nat), Iv 0 n ([] : List (Int × Int)) ∧
           ∀ i : Int, ∀ c0 : Int, ∀ c1 : List (Int × Int), Iv i c0 c1 →
           cnd (decide (i < (3000 : Int)))
             (n ≠ 0 ∧ n ≠ 0 ∧ (c1.length + 1) < 1000000000000 ∧ Iv (IntKind.i64.wrap (i + (1 : Int))) c0 (c1 ++ [((Int.tmod i n), (Int.tmod (IntKind.i64.wrap (i * (7 : Int))) n))]) ∧ m (IntKind.i64.wrap (i + (1 : Int))) c0 (c1 ++ [((Int.tmod i n), (Int.tmod (IntKind.i64.wrap (i * (7 : Int))) n))]) < m i c0 c1)
             (∃ Jv_2 : Prop,
             ( cnd (decide (k ≤ (4096 : Int)))
                (cnd (decide ((IntKind.i64.wrap (k * (IntKind.i64.wrap (n + (6000 : Int))))) ≤ (16777216 : Int)))
                  (R true)
                  (Jv_2))
                (Jv_2)) ∧
             (Jv_2 →
             ∃ Jv_3 : List (Nat × Nat) → Int → Prop,
             ( 0 ≤ n ∧ n ≤ 1000000000000 ∧ 0 ≤ n ∧ n ≤ 1000000000000 ∧ Ok46 c0 c1 (List.replicate (Int.toNat n) (0, 0)) (List.replicate (Int.toNat n) false) k (fun ra rb =>
              Jv_3 ra rb)) ∧
             ∀ l : List (Nat × Nat), ∀ ev : Int, Jv_3 l ev →
             cnd (ev == (3 : Int))
               (R (((l.length : Nat) : Int) == (0 : Int)))
               (R false))))))) ∧
    (Jv →
    R true)))

theorem ok10 {n k} {R : Bool → Prop} (T : T10 n k R) : Ok10 n k R := by
  intro h  H
  have Y : Sy h [] h _ := Sy.startM H rfl
  apply calls10
  unfold S10
  unfold T10 at T
  refine callX_sy (T _ (Hp.nil _)) (fun _ _ ⟨_, p, _⟩ => p.fr) alln ?_
  rintro v hv ⟨r, PP, rfl, T⟩
  have Y : Sy _ _ hv [] := Y.gr PP.fr
  clear PP
  refine ⟨r, rfl, ?_⟩
  refine cnd_imp T (fun T => ?_) (fun T => ?_)
  · exact ⟨_, Y.pick [] rfl, rfl, T⟩
  · obtain ⟨Jv, T0, T1⟩ := T
    obtain ⟨B, hB, _⟩ := Y.cut [] [] rfl
    intro K
    have hK : ∀  (hv2 : Heap), (Sy h [] hv2 ([] ++ B) ∧ Jv) → K hv2 := by
      subst hB
      clear T0 Y
      rintro hv2 ⟨Y, T⟩
      replace T := T1 T
      have Y : Sy _ _ _ [] := Y
      unfold K
      exact ⟨_, Y.pick [] rfl, rfl, T⟩
    subst hB
    replace T := T0
    clear T0 T1
    refine cnd_imp T (fun T => ?_) (fun T => ?_)
    · exact hK _ ⟨Y.pick [] rfl, T⟩
    · refine cnd_imp T (fun T => ?_) (fun T => ?_)
      · exact hK _ ⟨Y.pick [] rfl, T⟩
      · refine cnd_imp T (fun T => ?_) (fun T => ?_)
        · exact ⟨_, Y.pick [] rfl, rfl, T⟩
        · intro hv3
          have Y : Sy _ _ hv3 [_] := Y.junk _
          clear_value hv3
          intro hv4
          have Y : Sy _ _ hv4 [_] := ((Y.stJ 0 rfl _ _).stJ 0 rfl _ _)
          clear_value hv4
          have Y : Sy _ _ _ [_, _] := Y.nilS eP 35
          obtain ⟨Iv, m, T0, T1⟩ := T
          obtain ⟨B_2, hB_2, YB⟩ := Y.cut [1] [0] rfl
          obtain ⟨JJ, hJJ⟩ : ∃ JJ : Nat → List Value → Heap → Prop, JJ = (fun k_2 lz h' => ∃ (i : Int) (c0 : Int) (c1A : Option Addr) (c1L c1C : Nat) (c1 : List (Int × Int)), lz = [.int .i64 i, .int .i64 c0, .slice c1A c1L c1C] ∧ Sy h [] h' ([Ck.sl eP 35 c1A c1L c1C c1] ++ B_2) ∧ Iv i c0 c1 ∧ m i c0 c1 = k_2) := ⟨_, rfl⟩
          refine ⟨fun lz h' => ∃ k_2, JJ k_2 lz h', Lm JJ, ?_, ?_⟩
          · subst hJJ hB_2
            exact ⟨_, _, _, _, _, _, _, rfl, YB, T0, rfl⟩
          · clear YB T0 Y
            intro i c0 c1A c1L c1C hv5 hI
            obtain ⟨k_2, hI, hm⟩ := loopIn hI
            subst hJJ hB_2
            obtain ⟨i, c0, c1A, c1L, c1C, c1, e, Y, T, rfl⟩ := hI
            cases e
            obtain rfl := Y.lenS 0 rfl
            replace T := T1 i c0 c1 T
            have Y : Sy _ _ _ [_, _] := Y
            refine cnd_imp T (fun T => ?_) (fun T => ?_)
            · have Y0 := Y
              have F : Fr [] hv5 hv5 := Fr.refl _ _
              obtain ⟨q_3, T⟩ := T
              refine ⟨q_3, ?_⟩
              obtain ⟨q_2, T⟩ := T
              refine ⟨q_2, ?_⟩
              intro hv6
              have Y : Sy _ _ hv6 [_, _, _] := Y.junk _
              have F : Fr _ _ hv6 := F.pushr _
              have fshv6 := F.size
              clear_value hv6
              refine ⟨F, ?_⟩
              obtain ⟨q, T⟩ := T
              refine ⟨_, Y.ownS 0 rfl, (allc (Y.nJ 0 2 rfl rfl rfl) (allc (Y.nJ 0 1 rfl rfl rfl) alln)), by omega, by simp [maxLen]; omega, ?_⟩
              intro sA sC hv7 ow fA gA
              have Y : Sy _ _ hv7 [_, _, _] := Y.appS 0 rfl ([((Int.tmod i n), (Int.tmod (IntKind.i64.wrap (i * (7 : Int))) n))] : List (Int × Int)) ow fA gA rfl rfl
              intro hv8
              have Y : Sy _ _ hv8 [_, _, _] := (Y.stJ 1 rfl _ _)
              clear_value hv8
              exact loopBack hm ⟨_, _, _, _, _, _, rfl, Y.pick [0, 1] rfl, T.1, rfl⟩ T.2
            · obtain ⟨Jv_2, T0, T1⟩ := T
              obtain ⟨B_3, hB_3, _⟩ := Y.cut [] [0, 1] rfl
              intro K2
              have hK2 : ∀  (hv9 : Heap), (Sy h [] hv9 ([] ++ B_3) ∧ Jv_2) → K2 hv9 := by
                subst hB_3
                clear T0 Y
                rintro hv9 ⟨Y, T⟩
                replace T := T1 T
                have Y : Sy _ _ _ [_, _] := Y
                unfold K2
                obtain ⟨Jv_3, T0, T1⟩ := T
                obtain ⟨B_4, hB_4, _⟩ := Y.cut [] [0, 1] rfl
                intro K3
                have hK3 : ∀ (lA : Option Addr) (lL lC : Nat) (ev : Int) (hv16 : Heap), (∃ (l : List (Nat × Nat)), Sy h [] hv16 ([Ck.sl eFF 56 lA lL lC l] ++ B_4) ∧ Jv_3 l ev) → K3 lA lL lC ev hv16 := by
                  subst hB_4
                  clear T0 Y
                  rintro lA lL lC ev hv16 ⟨l, Y, T⟩
                  obtain rfl := Y.lenS 0 rfl
                  replace T := T1 l ev T
                  have Y : Sy _ _ _ [_, _, _] := Y
                  unfold K3
                  refine cnd_imp T (fun T => ?_) (fun T => ?_)
                  · exact ⟨_, Y.pick [] rfl, rfl, T⟩
                  · exact ⟨_, Y.pick [] rfl, rfl, T⟩
                subst hB_4
                replace T := T0
                clear T0 T1
                have Y0 := Y
                have F : Fr [] hv9 hv9 := Fr.refl _ _
                refine ⟨?_, ?_⟩
                · obtain ⟨q_4, q_6, T⟩ := T
                  refine ⟨q_4, Int.le_refl _, by omega, by omega, ?_⟩
                  intro hv10
                  have Y : Sy _ _ hv10 [_, _, _] := Y.mkS (E := eFF) (ty := 56) (0, 0) (Int.toNat n) (Int.toNat n) (Nat.le_refl _) (by simp [maxLen]; omega)
                  have F : Fr _ _ hv10 := F.pushr _
                  have fshv10 := F.size
                  clear_value hv10
                  refine ⟨F, ?_⟩
                  obtain ⟨q_7, q_9, T⟩ := T
                  refine ⟨q_7, Int.le_refl _, by omega, by omega, ?_⟩
                  intro hv11
                  have Y : Sy _ _ hv11 [_, _, _, _] := Y.mkS (E := eB) (ty := 4) false (Int.toNat n) (Int.toNat n) (Nat.le_refl _) (by simp [maxLen]; omega)
                  have F : Fr _ _ hv11 := F.pushr _
                  have fshv11 := F.size
                  clear_value hv11
                  refine ⟨F, ?_⟩
                  refine callX_sy (T _ _ _ _ _ _ _ _ _ _ ((((Y.turn 0 rfl To.slvw).turn 2 rfl To.slvw).turn 3 rfl To.slvw).pick [0, 2, 3] rfl).hp) (fun _ _ ⟨_, _, _, _, _, p, _⟩ => p.fr) (allc (fun h => by cases h) alln) ?_
                  rintro v2 hv12 ⟨raA, raL, raC, ra, rb, PP, rfl, T⟩
                  have F : Fr _ _ hv12 := F.trans PP.fr.nil
                  have fshv12 := F.size
                  have Y : Sy _ _ hv12 [_, _, _, _, _] := Y.callV PP ⟨rfl, trivial⟩
                  clear PP
                  obtain rfl := Y.lenS 4 rfl
                  refine ⟨_, _, _, rb, rfl, ?_⟩
                  refine ⟨F, ?_⟩
                  exact hK3 _ _ _ _ _ ⟨_, Y.pick [4, 0, 1] rfl, T⟩
                · obtain ⟨q_10, q_12, T⟩ := T
                  refine ⟨q_10, Int.le_refl _, by omega, by omega, ?_⟩
                  intro hv13
                  have Y : Sy _ _ hv13 [_, _, _] := Y.mkS (E := eB) (ty := 4) false (Int.toNat n) (Int.toNat n) (Nat.le_refl _) (by simp [maxLen]; omega)
                  have F : Fr _ _ hv13 := F.pushr _
                  have fshv13 := F.size
                  clear_value hv13
                  refine ⟨F, ?_⟩
                  obtain ⟨q_13, q_15, T⟩ := T
                  refine ⟨q_13, Int.le_refl _, by omega, by omega, ?_⟩
                  intro hv14
                  have Y : Sy _ _ hv14 [_, _, _, _] := Y.mkS (E := eFF) (ty := 56) (0, 0) (Int.toNat n) (Int.toNat n) (Nat.le_refl _) (by simp [maxLen]; omega)
                  have F : Fr _ _ hv14 := F.pushr _
                  have fshv14 := F.size
                  clear_value hv14
                  refine ⟨F, ?_⟩
                  refine callX_sy (T _ _ _ _ _ _ _ _ _ _ ((((Y.turn 0 rfl To.slvw).turn 3 rfl To.slvw).turn 2 rfl To.slvw).pick [0, 3, 2] rfl).hp) (fun _ _ ⟨_, _, _, _, _, p, _⟩ => p.fr) (allc (fun h => by cases h) alln) ?_
                  rintro v3 hv15 ⟨raA2, raL2, raC2, ra_2, rb2, PP, rfl, T⟩
                  have F : Fr _ _ hv15 := F.trans PP.fr.nil
                  have fshv15 := F.size
                  have Y : Sy _ _ hv15 [_, _, _, _, _] := Y.callV PP ⟨rfl, trivial⟩
                  clear PP
                  obtain rfl := Y.lenS 4 rfl
                  refine ⟨_, _, _, rb2, rfl, ?_⟩
                  refine ⟨F, ?_⟩
                  exact hK3 _ _ _ _ _ ⟨_, Y.pick [4, 0, 1] rfl, T⟩
              subst hB_3
              replace T := T0
              clear T0 T1
              refine cnd_imp T (fun T => ?_) (fun T => ?_)
              · refine cnd_imp T (fun T => ?_) (fun T => ?_)
                · exact ⟨_, Y.pick [] rfl, rfl, T⟩
                · exact hK2 _ ⟨Y.pick [0, 1] rfl, T⟩
              · exact hK2 _ ⟨Y.pick [0, 1] rfl, T⟩

/-- tracery/tracerylaw28.TutteMoved -/
def S11 (aA : Option Addr) (aL aC : Nat) (bA : Option Addr) (bL bC : Nat) (h : Heap) (R : Value → Heap → Prop) : Prop :=
  callX Try.prog 42 #[] h [] fun v hv =>
  ∃ r : Bool, v = .bool r ∧
  cnd (!r)
    (R (.bool false) hv)
    (callX Try.prog 44 #[.slice aA aL aC] hv [] fun v2 hv2 =>
    ∃ (rA : Option Addr) (rL rC : Nat), v2 = .slice rA rL rC ∧
    callX Try.prog 44 #[.slice bA bL bC] hv2 [] fun v3 hv3 =>
    ∃ (rA2 : Option Addr) (rL2 rC2 : Nat), v3 = .slice rA2 rL2 rC2 ∧
    callX Try.prog 51 #[.slice rA rL rC, .slice rA2 rL2 rC2] hv3 [] fun v4 hv4 =>
    ∃ ra : Nat, ∃ rb : Int, v4 = .tuple #[.float .f64 ra, .int .i64 rb] ∧
    callX Try.prog 51 #[.slice rA2 rL2 rC2, .slice rA rL rC] hv4 [] fun v5 hv5 =>
    ∃ ra2 : Nat, ∃ rb2 : Int, v5 = .tuple #[.float .f64 ra2, .int .i64 rb2] ∧
    let K := fun (hv7 : Heap) =>
      (R (.bool false) hv7)
    cnd (rb != rb2)
      (K hv5)
      (callX Try.prog 53 #[.float .f64 ra, .float .f64 ra2] hv5 [] fun v6 hv6 =>
      ∃ r2 : Bool, v6 = .bool r2 ∧
      cnd (!r2)
        (K hv6)
        (cnd (!((rb == (0 : Int)) == (((rL : Nat) : Int) == ((rL2 : Nat) : Int))))
          (R (.bool false) hv6)
          (cnd (rb != (0 : Int))
            (cnd (rb == (0 : Int))
              (R (.bool true) hv6)
              (R (.bool ((FloatKind.f64).format.order ra 0 == some .eq)) hv6))
            (callX Try.prog 57 #[.float .f64 ra] hv6 [] fun v7 hv8 =>
            ∃ r3 : Bool, v7 = .bool r3 ∧
            cnd r3
              (cnd (rb == (0 : Int))
                (R (.bool true) hv8)
                (R (.bool ((FloatKind.f64).format.order ra 0 == some .eq)) hv8))
              (∃ (Iv : List Value → Heap → Prop) (m : List Value → Heap → Nat), Iv [.int .i64 0] hv8 ∧ -- loop 0: ['i']
              ∀ i : Int, ∀ hv9, Iv [.int .i64 i] hv9 →
              cnd (decide (i < ((rL : Nat) : Int)))
                (let K2 := fun (hv10 : Heap) =>
                  (∃ b5 o5, rA = some ⟨b5, o5, none⟩ ∧ 0 ≤ i ∧ i < (rL : Nat) ∧ ∃ x5 : Nat, hcell hv10 b5 (o5 + (Int.toNat i) * 2) = some (.float .f64 x5) ∧ ∃ b6 o6, rA2 = some ⟨b6, o6, none⟩ ∧ 0 ≤ i ∧ i < (rL2 : Nat) ∧ ∃ x6 : Nat, hcell hv10 b6 (o6 + (Int.toNat i) * 2) = some (.float .f64 x6) ∧ ∀ r4, FRes .f64 x5 x6 ((FloatKind.f64).format.sub x5 x6) r4 → Fr [] hv10 hv10 ∧
                  callX Try.prog 56 #[.float .f64 r4] hv10 [] fun v8 hv11 =>
                  ∃ r5 : Nat, v8 = .float .f64 r5 ∧
                  Fr [] hv10 hv11 ∧
                  cnd ((FloatKind.f64).format.order r5 ra == some .gt)
                    (Fr [] hv10 hv11 ∧
                    Fr [] hv10 hv11 ∧
                    R (.bool false) hv11)
                    (∃ b7 o7, rA = some ⟨b7, o7, none⟩ ∧ 0 ≤ i ∧ i < (rL : Nat) ∧ ∃ x7 : Nat, hcell hv10 b7 ((o7 + (Int.toNat i) * 2) + 1) = some (.float .f64 x7) ∧ ∃ b8 o8, rA2 = some ⟨b8, o8, none⟩ ∧ 0 ≤ i ∧ i < (rL2 : Nat) ∧ ∃ x8 : Nat, hcell hv10 b8 ((o8 + (Int.toNat i) * 2) + 1) = some (.float .f64 x8) ∧ ∀ r6, FRes .f64 x7 x8 ((FloatKind.f64).format.sub x7 x8) r6 → Fr [] hv10 hv11 ∧
                    callX Try.prog 56 #[.float .f64 r6] hv11 [] fun v9 hv12 =>
                    ∃ r7 : Nat, v9 = .float .f64 r7 ∧
                    Fr [] hv10 hv12 ∧
                    cnd ((FloatKind.f64).format.order r7 ra == some .gt)
                      (R (.bool false) hv12)
                      (Iv [.int .i64 (IntKind.i64.wrap (i + (1 : Int)))] hv12 ∧ m [.int .i64 (IntKind.i64.wrap (i + (1 : Int)))] hv12 < m [.int .i64 i] hv9)))
                cnd ((FloatKind.f64).format.order ra 0 == some .eq)
                  (∃ b o, rA = some ⟨b, o, none⟩ ∧ 0 ≤ i ∧ i < (rL : Nat) ∧ ∃ x : Nat, hcell hv9 b (o + (Int.toNat i) * 2) = some (.float .f64 x) ∧ ∃ b2 o2, rA2 = some ⟨b2, o2, none⟩ ∧ 0 ≤ i ∧ i < (rL2 : Nat) ∧ ∃ x2 : Nat, hcell hv9 b2 (o2 + (Int.toNat i) * 2) = some (.float .f64 x2) ∧ cnd ((FloatKind.f64).format.order x x2 != some .eq)
                    (R (.bool false) hv9)
                    (∃ b3 o3, rA = some ⟨b3, o3, none⟩ ∧ 0 ≤ i ∧ i < (rL : Nat) ∧ ∃ x3 : Nat, hcell hv9 b3 ((o3 + (Int.toNat i) * 2) + 1) = some (.float .f64 x3) ∧ ∃ b4 o4, rA2 = some ⟨b4, o4, none⟩ ∧ 0 ≤ i ∧ i < (rL2 : Nat) ∧ ∃ x4 : Nat, hcell hv9 b4 ((o4 + (Int.toNat i) * 2) + 1) = some (.float .f64 x4) ∧ cnd ((FloatKind.f64).format.order x3 x4 != some .eq)
                      (R (.bool false) hv9)
                      (K2 hv9)))
                  (K2 hv9))
                (R (.bool (((FloatKind.f64).format.order ra 0 == some .gt) || ((FloatKind.f64).format.order ra 0 == some .eq))) hv9)))))))

theorem calls11 {h : Heap} {R : Value → Heap → Prop} (aA : Option Addr) (aL aC : Nat) (bA : Option Addr) (bL bC : Nat) (H : S11 aA aL aC bA bL bC h R) : CallsH Try.prog 11 #[.slice aA aL aC, .slice bA bL bC] h R := by
  have e : S11 aA aL aC bA bL bC h R = FX (envX [] 127) { loops := [(0, ⟨[5, 6, 7], [11], [], []⟩)], joins := [], blocks := [], draws := [(13, ⟨28, false⟩), (15, ⟨30, false⟩)] } Try.f11 (Try.f11.body.getD .skip) [.slice aA aL aC, .slice bA bL bC] h R := by kernel_rfl
  exact calls_of_FX (envX_ok _ _) Try.func11 (by kernel_rfl) (by kernel_rfl) (by kernel_rfl) (e ▸ H)

/-- tracery/tracerylaw28.TutteMoved -/
def Ok11 (aV : List Int) (bV : List Int) (R : Bool → Prop) : Prop :=
  ∀ (h : Heap) (aA : Option Addr) (aL aC : Nat) (bA : Option Addr) (bL bC : Nat), Hp h [Ck.vw (eK .u64) aA aL aC aV, Ck.vw (eK .u64) bA bL bC bV] → CallsH Try.prog 11 #[.slice aA aL aC, .slice bA bL bC] h fun v h' => ∃ (rV : Bool), Sy h [] h' [] ∧ v = .bool rV ∧ R rV
theorem Ok11.mono {aV bV} {R R' : Bool → Prop} (H : Ok11 aV bV R) (kz : ∀ rV, R rV → R' rV) : Ok11 aV bV R' :=
  fun h aA aL aC bA bL bC hp => (H h aA aL aC bA bL bC hp).mono fun _ _ ⟨rV, P, e, q⟩ => ⟨rV, P, e, kz _ q⟩

def T11 (aV : List Int) (bV : List Int) (R : Bool → Prop) : Prop :=
  Ok42 (fun r =>
  cnd (!r)
    (R false)
    (Ok44 aV (fun r_2 =>
    Ok44 bV (fun r_3 =>
    Ok51 r_2 r_3 (fun ra rb =>
    Ok51 r_3 r_2 (fun ra2 rb2 =>
    ∃ Jv : Prop,
    ( cnd (rb != rb2)
       (Jv)
       (Ok53 ra ra2 (fun r2 =>
       cnd (!r2)
         (Jv)
         (cnd (!((rb == (0 : Int)) == (((r_2.length : Nat) : Int) == ((r_3.length : Nat) : Int))))
           (R false)
           (cnd (rb != (0 : Int))
             (cnd (rb == (0 : Int))
               (R true)
               (R ((FloatKind.f64).format.order ra 0 == some .eq)))
             (Ok57 ra (fun r3 =>
             cnd r3
               (cnd (rb == (0 : Int))
                 (R true)
                 (R ((FloatKind.f64).format.order ra 0 == some .eq)))
               (∃ (Iv : Int → Prop) (m : Int → Nat), Iv 0 ∧
               ∀ i : Int, Iv i →
               cnd (decide (i < ((r_2.length : Nat) : Int)))
                 (∃ Jv_2 : Prop,
                 ( cnd ((FloatKind.f64).format.order ra 0 == some .eq)
                    (0 ≤ i ∧ i < ((r_2.length : Nat) : Int) ∧ ∀ r_6 : (Nat × Nat), r_2[(Int.toNat i)]? = some r_6 → 0 ≤ i ∧ i < ((r_3.length : Nat) : Int) ∧ ∀ r_7 : (Nat × Nat), r_3[(Int.toNat i)]? = some r_7 → cnd ((FloatKind.f64).format.order r_6.1 r_7.1 != some .eq)
                      (R false)
                      (cnd ((FloatKind.f64).format.order r_6.2 r_7.2 != some .eq)
                        (R false)
                        (Jv_2)))
                    (Jv_2)) ∧
                 (Jv_2 →
                 0 ≤ i ∧ i < ((r_2.length : Nat) : Int) ∧ ∀ r_4 : (Nat × Nat), r_2[(Int.toNat i)]? = some r_4 → 0 ≤ i ∧ i < ((r_3.length : Nat) : Int) ∧ ∀ r_5 : (Nat × Nat), r_3[(Int.toNat i)]? = some r_5 → ∀ r4 : Nat, FRes .f64 r_4.1 r_5.1 ((FloatKind.f64).format.sub r_4.1 r_5.1) r4 → Ok56 r4 (fun r5 =>
                 cnd ((FloatKind.f64).format.order r5 ra == some .gt)
                   (R false)
                   (∀ r6 : Nat, FRes .f64 r_4.2 r_5.2 ((FloatKind.f64).format.sub r_4.2 r_5.2) r6 → Ok56 r6 (fun r7 =>
                   cnd ((FloatKind.f64).format.order r7 ra == some .gt)
                     (R false)
                     (Iv (IntKind.i64.wrap (i + (1 : Int))) ∧ m (IntKind.i64.wrap (i + (1 : Int))) < m i))))))
                 (R (((FloatKind.f64).format.order ra 0 == some .gt) || ((FloatKind.f64).format.order ra 0 == some .eq))))))))))) ∧
    (Jv →
    R false)))))))

theorem ok11 {aV bV} {R : Bool → Prop} (T : T11 aV bV R) : Ok11 aV bV R := by
  intro h aA aL aC bA bL bC H
  have Y : Sy h [] h _ := Sy.startM H rfl
  obtain rfl := Y.lenV 0 rfl
  obtain rfl := Y.lenV 1 rfl
  apply calls11
  unfold S11
  unfold T11 at T
  refine callX_sy (T _ (Hp.nil _)) (fun _ _ ⟨_, p, _⟩ => p.fr) alln ?_
  rintro v hv ⟨r, PP, rfl, T⟩
  have Y : Sy _ _ hv [_, _] := Y.gr PP.fr
  clear PP
  refine ⟨r, rfl, ?_⟩
  refine cnd_imp T (fun T => ?_) (fun T => ?_)
  · exact ⟨_, Y.pick [] rfl, rfl, T⟩
  · refine callX_sy (T _ _ _ _ (Y.pick [0] rfl).hp) (fun _ _ ⟨_, _, _, _, p, _⟩ => p.fr) alln ?_
    rintro v2 hv2 ⟨rA, rL, rC, r_2, PP, rfl, T⟩
    have Y : Sy _ _ hv2 [_, _, _] := Y.callV PP ⟨rfl, trivial⟩
    clear PP
    obtain rfl := Y.lenS 2 rfl
    refine ⟨_, _, _, rfl, ?_⟩
    refine callX_sy (T _ _ _ _ (Y.pick [1] rfl).hp) (fun _ _ ⟨_, _, _, _, p, _⟩ => p.fr) alln ?_
    rintro v3 hv3 ⟨rA2, rL2, rC2, r_3, PP, rfl, T⟩
    have Y : Sy _ _ hv3 [_, _, _, _] := Y.callV PP ⟨rfl, trivial⟩
    clear PP
    obtain rfl := Y.lenS 3 rfl
    refine ⟨_, _, _, rfl, ?_⟩
    refine callX_sy (T _ _ _ _ _ _ _ (((Y.turn 2 rfl To.slvw).turn 3 rfl To.slvw).pick [2, 3] rfl).hp) (fun _ _ ⟨_, _, p, _⟩ => p.fr) alln ?_
    rintro v4 hv4 ⟨ra, rb, PP, rfl, T⟩
    have Y : Sy _ _ hv4 [_, _, _, _] := Y.gr PP.fr
    clear PP
    refine ⟨ra, rb, rfl, ?_⟩
    refine callX_sy (T _ _ _ _ _ _ _ (((Y.turn 3 rfl To.slvw).turn 2 rfl To.slvw).pick [3, 2] rfl).hp) (fun _ _ ⟨_, _, p, _⟩ => p.fr) alln ?_
    rintro v5 hv5 ⟨ra2, rb2, PP, rfl, T⟩
    have Y : Sy _ _ hv5 [_, _, _, _] := Y.gr PP.fr
    clear PP
    refine ⟨ra2, rb2, rfl, ?_⟩
    obtain ⟨Jv, T0, T1⟩ := T
    obtain ⟨B, hB, _⟩ := Y.cut [] [0, 1, 2, 3] rfl
    intro K
    have hK : ∀  (hv7 : Heap), (Sy h [] hv7 ([] ++ B) ∧ Jv) → K hv7 := by
      subst hB
      clear T0 Y
      rintro hv7 ⟨Y, T⟩
      replace T := T1 T
      have Y : Sy _ _ _ [_, _, _, _] := Y
      unfold K
      exact ⟨_, Y.pick [] rfl, rfl, T⟩
    subst hB
    replace T := T0
    clear T0 T1
    refine cnd_imp T (fun T => ?_) (fun T => ?_)
    · exact hK _ ⟨Y.pick [0, 1, 2, 3] rfl, T⟩
    · refine callX_sy (T _ (Hp.nil _)) (fun _ _ ⟨_, p, _⟩ => p.fr) alln ?_
      rintro v6 hv6 ⟨r2, PP, rfl, T⟩
      have Y : Sy _ _ hv6 [_, _, _, _] := Y.gr PP.fr
      clear PP
      refine ⟨r2, rfl, ?_⟩
      refine cnd_imp T (fun T => ?_) (fun T => ?_)
      · exact hK _ ⟨Y.pick [0, 1, 2, 3] rfl, T⟩
      · refine cnd_imp T (fun T => ?_) (fun T => ?_)
        · exact ⟨_, Y.pick [] rfl, rfl, T⟩
        · refine cnd_imp T (fun T => ?_) (fun T => ?_)
          · refine cnd_imp T (fun T => ?_) (fun T => ?_)
            · exact ⟨_, Y.pick [] rfl, rfl, T⟩
            · exact ⟨_, Y.pick [] rfl, rfl, T⟩
          · refine callX_sy (T _ (Hp.nil _)) (fun _ _ ⟨_, p, _⟩ => p.fr) alln ?_
            rintro v7 hv8 ⟨r3, PP, rfl, T⟩
            have Y : Sy _ _ hv8 [_, _, _, _] := Y.gr PP.fr
            clear PP
            refine ⟨r3, rfl, ?_⟩
            refine cnd_imp T (fun T => ?_) (fun T => ?_)
            · refine cnd_imp T (fun T => ?_) (fun T => ?_)
              · exact ⟨_, Y.pick [] rfl, rfl, T⟩
              · exact ⟨_, Y.pick [] rfl, rfl, T⟩
            · obtain ⟨Iv, m, T0, T1⟩ := T
              obtain ⟨B_2, hB_2, YB⟩ := Y.cut [] [0, 1, 2, 3] rfl
              obtain ⟨JJ, hJJ⟩ : ∃ JJ : Nat → List Value → Heap → Prop, JJ = (fun k lz h' => ∃ (i : Int), lz = [.int .i64 i] ∧ Sy h [] h' ([] ++ B_2) ∧ Iv i ∧ m i = k) := ⟨_, rfl⟩
              refine ⟨fun lz h' => ∃ k, JJ k lz h', Lm JJ, ?_, ?_⟩
              · subst hJJ hB_2
                exact ⟨_, _, rfl, YB, T0, rfl⟩
              · clear YB T0 Y
                intro i hv9 hI
                obtain ⟨k, hI, hm⟩ := loopIn hI
                subst hJJ hB_2
                obtain ⟨i, e, Y, T, rfl⟩ := hI
                cases e
                replace T := T1 i T
                have Y : Sy _ _ _ [_, _, _, _] := Y
                refine cnd_imp T (fun T => ?_) (fun T => ?_)
                · obtain ⟨Jv_2, T0, T1⟩ := T
                  obtain ⟨B_3, hB_3, _⟩ := Y.cut [] [0, 1, 2, 3] rfl
                  intro K2
                  have hK2 : ∀  (hv10 : Heap), (Sy h [] hv10 ([] ++ B_3) ∧ Jv_2) → K2 hv10 := by
                    subst hB_3
                    clear T0 Y
                    rintro hv10 ⟨Y, T⟩
                    replace T := T1 T
                    have Y : Sy _ _ _ [_, _, _, _] := Y
                    unfold K2
                    have Y0 := Y
                    have F : Fr [] hv10 hv10 := Fr.refl _ _
                    obtain ⟨q, q_2, T⟩ := T
                    obtain ⟨b_2, hb, ho, r_4, hx⟩ := Y0.atS 2 rfl q q_2
                    refine ⟨b_2, 0, hb, q, q_2, ?_⟩
                    replace T := T r_4 hx
                    refine ⟨_, Y0.cellS 2 rfl hb (t := 0) hx rfl, ?_⟩
                    obtain ⟨q_3, q_4, T⟩ := T
                    obtain ⟨b_3, hb_2, ho_2, r_5, hx_2⟩ := Y0.atS 3 rfl q_3 q_4
                    refine ⟨b_3, 0, hb_2, q_3, q_4, ?_⟩
                    replace T := T r_5 hx_2
                    refine ⟨_, Y0.cellS 3 rfl hb_2 (t := 0) hx_2 rfl, ?_⟩
                    intro r4 hq
                    replace T := T r4 hq
                    refine ⟨F, ?_⟩
                    refine callX_sy (T _ (Hp.nil _)) (fun _ _ ⟨_, p, _⟩ => p.fr) alln ?_
                    rintro v8 hv11 ⟨r5, PP, rfl, T⟩
                    have F : Fr _ _ hv11 := F.trans PP.fr.nil
                    have fshv11 := F.size
                    have Y : Sy _ _ hv11 [_, _, _, _] := Y.gr PP.fr
                    clear PP
                    refine ⟨r5, rfl, ?_⟩
                    refine ⟨F, ?_⟩
                    refine cnd_imp T (fun T => ?_) (fun T => ?_)
                    · refine ⟨F, ?_⟩
                      refine ⟨F, ?_⟩
                      exact ⟨_, Y.pick [] rfl, rfl, T⟩
                    · refine ⟨b_2, 0, hb, q, q_2, ?_⟩
                      refine ⟨_, Y0.cellS 2 rfl hb (t := 1) hx rfl, ?_⟩
                      refine ⟨b_3, 0, hb_2, q_3, q_4, ?_⟩
                      refine ⟨_, Y0.cellS 3 rfl hb_2 (t := 1) hx_2 rfl, ?_⟩
                      intro r6 hq
                      replace T := T r6 hq
                      refine ⟨F, ?_⟩
                      refine callX_sy (T _ (Hp.nil _)) (fun _ _ ⟨_, p, _⟩ => p.fr) alln ?_
                      rintro v9 hv12 ⟨r7, PP, rfl, T⟩
                      have F : Fr _ _ hv12 := F.trans PP.fr.nil
                      have fshv12 := F.size
                      have Y : Sy _ _ hv12 [_, _, _, _] := Y.gr PP.fr
                      clear PP
                      refine ⟨r7, rfl, ?_⟩
                      refine ⟨F, ?_⟩
                      refine cnd_imp T (fun T => ?_) (fun T => ?_)
                      · exact ⟨_, Y.pick [] rfl, rfl, T⟩
                      · exact loopBack hm ⟨_, rfl, Y.pick [0, 1, 2, 3] rfl, T.1, rfl⟩ T.2
                  subst hB_3
                  replace T := T0
                  clear T0 T1
                  have Y0 := Y
                  have F : Fr [] hv9 hv9 := Fr.refl _ _
                  refine cnd_imp T (fun T => ?_) (fun T => ?_)
                  · obtain ⟨q_5, q_6, T⟩ := T
                    obtain ⟨b_4, hb_3, ho_3, r_6, hx_3⟩ := Y0.atS 2 rfl q_5 q_6
                    refine ⟨b_4, 0, hb_3, q_5, q_6, ?_⟩
                    replace T := T r_6 hx_3
                    refine ⟨_, Y0.cellS 2 rfl hb_3 (t := 0) hx_3 rfl, ?_⟩
                    obtain ⟨q_7, q_8, T⟩ := T
                    obtain ⟨b_5, hb_4, ho_4, r_7, hx_4⟩ := Y0.atS 3 rfl q_7 q_8
                    refine ⟨b_5, 0, hb_4, q_7, q_8, ?_⟩
                    replace T := T r_7 hx_4
                    refine ⟨_, Y0.cellS 3 rfl hb_4 (t := 0) hx_4 rfl, ?_⟩
                    refine cnd_imp T (fun T => ?_) (fun T => ?_)
                    · exact ⟨_, Y.pick [] rfl, rfl, T⟩
                    · refine ⟨b_4, 0, hb_3, q_5, q_6, ?_⟩
                      refine ⟨_, Y0.cellS 2 rfl hb_3 (t := 1) hx_3 rfl, ?_⟩
                      refine ⟨b_5, 0, hb_4, q_7, q_8, ?_⟩
                      refine ⟨_, Y0.cellS 3 rfl hb_4 (t := 1) hx_4 rfl, ?_⟩
                      refine cnd_imp T (fun T => ?_) (fun T => ?_)
                      · exact ⟨_, Y.pick [] rfl, rfl, T⟩
                      · exact hK2 _ ⟨Y.pick [0, 1, 2, 3] rfl, T⟩
                  · exact hK2 _ ⟨Y.pick [0, 1, 2, 3] rfl, T⟩
                · exact ⟨_, Y.pick [] rfl, rfl, T⟩

end Go.Proofs.Ytmcloipjlihhlaa.N
