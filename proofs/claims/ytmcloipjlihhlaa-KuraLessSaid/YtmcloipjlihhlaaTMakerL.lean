/- Functions: what is left to be shown of each, over memory and without: printed by program, tied to the loaded functions by the kernel. Conditions: none. -/
import Derived.Test.YtmcloipjlihhlaaSEnv
import Derived.Test.YtmcloipjlihhlaaYMore
import Derived.Test.YtmcloipjlihhlaaTMade
import Derived.Test.YtmcloipjlihhlaaTKind
namespace Go.Proofs.Ytmcloipjlihhlaa.N
open Go.Proofs.Ytmcloipjlihhlaa
open Go.X
set_option maxRecDepth 100000
set_option linter.unusedVariables false
set_option linter.unusedSimpArgs false
set_option maxHeartbeats 2000000

/-- tracery/tracerylaw5.Make -/
def S39 (name : ByteArray) (a : Int) (b : Int) (seed : Int) (h : Heap) (R : Value → Heap → Prop) : Prop :=
  let hv : Heap := h.push (.cells #[.int .i64 0, .slice none 0 0] 26)
  cnd (name.toList == (⟨#[112, 97, 116, 104]⟩ : ByteArray).toList)
    (callX Try.prog 136 #[.int .i64 a] hv [h.size] fun v hv2 =>
    ∃ ra : Int, ∃ (raA : Option Addr) (raL raC : Nat), ∃ rb : Int, v = .tuple #[.agg #[.int .i64 ra, .slice raA raL raC], .int .i64 rb] ∧
    let hv3 : Heap := hset (hset hv2 h.size 0 (.int .i64 ra)) h.size (0 + 1) (.slice raA raL raC)
    R (.tuple #[.agg #[.int .i64 ra, .slice raA raL raC], .int .i64 rb]) hv3)
    (cnd (name.toList == (⟨#[99, 121, 99, 108, 101]⟩ : ByteArray).toList)
      (callX Try.prog 30 #[.int .i64 a] hv [h.size] fun v2 hv4 =>
      ∃ ra2 : Int, ∃ (raA2 : Option Addr) (raL2 raC2 : Nat), ∃ rb2 : Int, v2 = .tuple #[.agg #[.int .i64 ra2, .slice raA2 raL2 raC2], .int .i64 rb2] ∧
      let hv5 : Heap := hset (hset hv4 h.size 0 (.int .i64 ra2)) h.size (0 + 1) (.slice raA2 raL2 raC2)
      R (.tuple #[.agg #[.int .i64 ra2, .slice raA2 raL2 raC2], .int .i64 rb2]) hv5)
      (cnd (name.toList == (⟨#[99, 111, 109, 112, 108, 101, 116, 101]⟩ : ByteArray).toList)
        (callX Try.prog 33 #[.int .i64 a] hv [h.size] fun v3 hv6 =>
        ∃ ra3 : Int, ∃ (raA3 : Option Addr) (raL3 raC3 : Nat), ∃ rb3 : Int, v3 = .tuple #[.agg #[.int .i64 ra3, .slice raA3 raL3 raC3], .int .i64 rb3] ∧
        let hv7 : Heap := hset (hset hv6 h.size 0 (.int .i64 ra3)) h.size (0 + 1) (.slice raA3 raL3 raC3)
        R (.tuple #[.agg #[.int .i64 ra3, .slice raA3 raL3 raC3], .int .i64 rb3]) hv7)
        (cnd (name.toList == (⟨#[116, 119, 111]⟩ : ByteArray).toList)
          (callX Try.prog 34 #[.int .i64 a, .int .i64 b] hv [h.size] fun v4 hv8 =>
          ∃ ra4 : Int, ∃ (raA4 : Option Addr) (raL4 raC4 : Nat), ∃ rb4 : Int, v4 = .tuple #[.agg #[.int .i64 ra4, .slice raA4 raL4 raC4], .int .i64 rb4] ∧
          let hv9 : Heap := hset (hset hv8 h.size 0 (.int .i64 ra4)) h.size (0 + 1) (.slice raA4 raL4 raC4)
          R (.tuple #[.agg #[.int .i64 ra4, .slice raA4 raL4 raC4], .int .i64 rb4]) hv9)
          (cnd (name.toList == (⟨#[103, 114, 105, 100]⟩ : ByteArray).toList)
            (callX Try.prog 35 #[.int .i64 a, .int .i64 b] hv [h.size] fun v5 hv10 =>
            ∃ ra5 : Int, ∃ (raA5 : Option Addr) (raL5 raC5 : Nat), ∃ rb5 : Int, v5 = .tuple #[.agg #[.int .i64 ra5, .slice raA5 raL5 raC5], .int .i64 rb5] ∧
            let hv11 : Heap := hset (hset hv10 h.size 0 (.int .i64 ra5)) h.size (0 + 1) (.slice raA5 raL5 raC5)
            R (.tuple #[.agg #[.int .i64 ra5, .slice raA5 raL5 raC5], .int .i64 rb5]) hv11)
            (cnd (name.toList == (⟨#[119, 104, 101, 101, 108]⟩ : ByteArray).toList)
              (callX Try.prog 31 #[.int .i64 a] hv [h.size] fun v6 hv12 =>
              ∃ ra6 : Int, ∃ (raA6 : Option Addr) (raL6 raC6 : Nat), ∃ rb6 : Int, v6 = .tuple #[.agg #[.int .i64 ra6, .slice raA6 raL6 raC6], .int .i64 rb6] ∧
              let hv13 : Heap := hset (hset hv12 h.size 0 (.int .i64 ra6)) h.size (0 + 1) (.slice raA6 raL6 raC6)
              R (.tuple #[.agg #[.int .i64 ra6, .slice raA6 raL6 raC6], .int .i64 rb6]) hv13)
              (cnd (name.toList == (⟨#[112, 114, 105, 115, 109]⟩ : ByteArray).toList)
                (callX Try.prog 32 #[.int .i64 a] hv [h.size] fun v7 hv14 =>
                ∃ ra7 : Int, ∃ (raA7 : Option Addr) (raL7 raC7 : Nat), ∃ rb7 : Int, v7 = .tuple #[.agg #[.int .i64 ra7, .slice raA7 raL7 raC7], .int .i64 rb7] ∧
                let hv15 : Heap := hset (hset hv14 h.size 0 (.int .i64 ra7)) h.size (0 + 1) (.slice raA7 raL7 raC7)
                R (.tuple #[.agg #[.int .i64 ra7, .slice raA7 raL7 raC7], .int .i64 rb7]) hv15)
                (cnd (name.toList == (⟨#[98, 111, 110, 100]⟩ : ByteArray).toList)
                  (callX Try.prog 137 #[.int .i64 a] hv [h.size] fun v8 hv16 =>
                  ∃ ra8 : Int, ∃ (raA8 : Option Addr) (raL8 raC8 : Nat), ∃ rb8 : Int, v8 = .tuple #[.agg #[.int .i64 ra8, .slice raA8 raL8 raC8], .int .i64 rb8] ∧
                  let hv17 : Heap := hset (hset hv16 h.size 0 (.int .i64 ra8)) h.size (0 + 1) (.slice raA8 raL8 raC8)
                  R (.tuple #[.agg #[.int .i64 ra8, .slice raA8 raL8 raC8], .int .i64 rb8]) hv17)
                  (cnd (name.toList == (⟨#[114, 97, 110, 100, 111, 109]⟩ : ByteArray).toList)
                    (callX Try.prog 138 #[.int .i64 a, .int .i64 b, .int .u64 seed] hv [h.size] fun v9 hv18 =>
                    ∃ ra9 : Int, ∃ (raA9 : Option Addr) (raL9 raC9 : Nat), ∃ rb9 : Int, v9 = .tuple #[.agg #[.int .i64 ra9, .slice raA9 raL9 raC9], .int .i64 rb9] ∧
                    let hv19 : Heap := hset (hset hv18 h.size 0 (.int .i64 ra9)) h.size (0 + 1) (.slice raA9 raL9 raC9)
                    R (.tuple #[.agg #[.int .i64 ra9, .slice raA9 raL9 raC9], .int .i64 rb9]) hv19)
                    (callX Try.prog 28 #[.int .i64 a, .int .u64 seed] hv [h.size] fun v10 hv20 =>
                    ∃ ra10 : Int, ∃ (raA10 : Option Addr) (raL10 raC10 : Nat), ∃ rb10 : Int, v10 = .tuple #[.agg #[.int .i64 ra10, .slice raA10 raL10 raC10], .int .i64 rb10] ∧
                    let hv21 : Heap := hset (hset hv20 h.size 0 (.int .i64 ra10)) h.size (0 + 1) (.slice raA10 raL10 raC10)
                    R (.tuple #[.agg #[.int .i64 ra10, .slice raA10 raL10 raC10], .int .i64 rb10]) hv21)))))))))

theorem calls39 {h : Heap} {R : Value → Heap → Prop} (name : ByteArray) (a : Int) (b : Int) (seed : Int) (H : S39 name a b seed h R) : CallsH Try.prog 39 #[.string name, .int .i64 a, .int .i64 b, .int .u64 seed] h R := by
  have e : S39 name a b seed h R = FX (envX [8] 74) { loops := [], joins := [], blocks := [], draws := [] } Try.f39 (Try.f39.body.getD .skip) [.string name, .int .i64 a, .int .i64 b, .int .u64 seed] h R := by kernel_rfl
  exact calls_of_FX (envX_ok _ _) Try.func39 (by kernel_rfl) (by kernel_rfl) (by kernel_rfl) (e ▸ H)

/-- tracery/tracerylaw5.Make -/
def Ok39 (name : ByteArray) (a : Int) (b : Int) (seed : Int) (R : Int → List (Int × Int) → Int → Prop) : Prop :=
  ∀ (h : Heap), Hp h [] → CallsH Try.prog 39 #[.string name, .int .i64 a, .int .i64 b, .int .u64 seed] h fun v h' => ∃ (nV : Int) (edgesVA : Option Addr) (edgesVL edgesVC : Nat) (edgesV : List (Int × Int)) (rbV : Int), Sy h [] h' [Ck.sl eP 35 edgesVA edgesVL edgesVC edgesV] ∧ v = .tuple #[.agg #[.int .i64 nV, .slice edgesVA edgesVL edgesVC], .int .i64 rbV] ∧ R nV edgesV rbV
theorem Ok39.mono {name a b seed} {R R' : Int → List (Int × Int) → Int → Prop} (H : Ok39 name a b seed R) (kz : ∀ nV edgesV rbV, R nV edgesV rbV → R' nV edgesV rbV) : Ok39 name a b seed R' :=
  fun h  hp => (H h  hp).mono fun _ _ ⟨nV, edgesVA, edgesVL, edgesVC, edgesV, rbV, P, e, q⟩ => ⟨nV, edgesVA, edgesVL, edgesVC, edgesV, rbV, P, e, kz _ _ _ q⟩

def T39 (name : ByteArray) (a : Int) (b : Int) (seed : Int) (R : Int → List (Int × Int) → Int → Prop) : Prop :=
  cnd (name.toList == (⟨#[112, 97, 116, 104]⟩ : ByteArray).toList)
    (Ok136 a (fun ra ra_2 rb =>
    R ra ra_2 rb))
    (cnd (name.toList == (⟨#[99, 121, 99, 108, 101]⟩ : ByteArray).toList)
      (Ok30 a (fun ra2 ra_3 rb2 =>
      R ra2 ra_3 rb2))
      (cnd (name.toList == (⟨#[99, 111, 109, 112, 108, 101, 116, 101]⟩ : ByteArray).toList)
        (Ok33 a (fun ra3 ra_4 rb3 =>
        R ra3 ra_4 rb3))
        (cnd (name.toList == (⟨#[116, 119, 111]⟩ : ByteArray).toList)
          (Ok34 a b (fun ra4 ra_5 rb4 =>
          R ra4 ra_5 rb4))
          (cnd (name.toList == (⟨#[103, 114, 105, 100]⟩ : ByteArray).toList)
            (Ok35 a b (fun ra5 ra_6 rb5 =>
            R ra5 ra_6 rb5))
            (cnd (name.toList == (⟨#[119, 104, 101, 101, 108]⟩ : ByteArray).toList)
              (Ok31 a (fun ra6 ra_7 rb6 =>
              R ra6 ra_7 rb6))
              (cnd (name.toList == (⟨#[112, 114, 105, 115, 109]⟩ : ByteArray).toList)
                (Ok32 a (fun ra7 ra_8 rb7 =>
                R ra7 ra_8 rb7))
                (cnd (name.toList == (⟨#[98, 111, 110, 100]⟩ : ByteArray).toList)
                  (Ok137 a (fun ra8 ra_9 rb8 =>
                  R ra8 ra_9 rb8))
                  (cnd (name.toList == (⟨#[114, 97, 110, 100, 111, 109]⟩ : ByteArray).toList)
                    (Ok138 a b seed (fun ra9 ra_10 rb9 =>
                    R ra9 ra_10 rb9))
                    (Ok28 a seed (fun ra10 ra_11 rb10 =>
                    R ra10 ra_11 rb10))))))))))

theorem ok39 {name a b seed} {R : Int → List (Int × Int) → Int → Prop} (T : T39 name a b seed R) : Ok39 name a b seed R := by
  intro h  H
  have Y : Sy h [] h _ := Sy.startM H rfl
  apply calls39
  unfold S39
  unfold T39 at T
  intro hv
  have Y : Sy _ _ hv [_] := Y.junk _
  clear_value hv
  refine cnd_imp T (fun T => ?_) (fun T => ?_)
  · refine callX_sy (T _ (Hp.nil _)) (fun _ _ ⟨_, _, _, _, _, _, p, _⟩ => p.fr) (allc (fun h => by cases h) alln) ?_
    rintro v hv2 ⟨ra, raA, raL, raC, ra_2, rb, PP, rfl, T⟩
    have Y : Sy _ _ hv2 [_, _] := Y.callV PP ⟨rfl, trivial⟩
    clear PP
    obtain rfl := Y.lenS 1 rfl
    refine ⟨ra, _, _, _, rb, rfl, ?_⟩
    intro hv3
    have Y : Sy _ _ hv3 [_, _] := ((Y.stJ 0 rfl _ _).stJ 0 rfl _ _)
    clear_value hv3
    exact ⟨_, _, _, _, _, _, Y.pick [1] rfl, rfl, T⟩
  · refine cnd_imp T (fun T => ?_) (fun T => ?_)
    · refine callX_sy (T _ (Hp.nil _)) (fun _ _ ⟨_, _, _, _, _, _, p, _⟩ => p.fr) (allc (fun h => by cases h) alln) ?_
      rintro v2 hv4 ⟨ra2, raA2, raL2, raC2, ra_3, rb2, PP, rfl, T⟩
      have Y : Sy _ _ hv4 [_, _] := Y.callV PP ⟨rfl, trivial⟩
      clear PP
      obtain rfl := Y.lenS 1 rfl
      refine ⟨ra2, _, _, _, rb2, rfl, ?_⟩
      intro hv5
      have Y : Sy _ _ hv5 [_, _] := ((Y.stJ 0 rfl _ _).stJ 0 rfl _ _)
      clear_value hv5
      exact ⟨_, _, _, _, _, _, Y.pick [1] rfl, rfl, T⟩
    · refine cnd_imp T (fun T => ?_) (fun T => ?_)
      · refine callX_sy (T _ (Hp.nil _)) (fun _ _ ⟨_, _, _, _, _, _, p, _⟩ => p.fr) (allc (fun h => by cases h) alln) ?_
        rintro v3 hv6 ⟨ra3, raA3, raL3, raC3, ra_4, rb3, PP, rfl, T⟩
        have Y : Sy _ _ hv6 [_, _] := Y.callV PP ⟨rfl, trivial⟩
        clear PP
        obtain rfl := Y.lenS 1 rfl
        refine ⟨ra3, _, _, _, rb3, rfl, ?_⟩
        intro hv7
        have Y : Sy _ _ hv7 [_, _] := ((Y.stJ 0 rfl _ _).stJ 0 rfl _ _)
        clear_value hv7
        exact ⟨_, _, _, _, _, _, Y.pick [1] rfl, rfl, T⟩
      · refine cnd_imp T (fun T => ?_) (fun T => ?_)
        · refine callX_sy (T _ (Hp.nil _)) (fun _ _ ⟨_, _, _, _, _, _, p, _⟩ => p.fr) (allc (fun h => by cases h) alln) ?_
          rintro v4 hv8 ⟨ra4, raA4, raL4, raC4, ra_5, rb4, PP, rfl, T⟩
          have Y : Sy _ _ hv8 [_, _] := Y.callV PP ⟨rfl, trivial⟩
          clear PP
          obtain rfl := Y.lenS 1 rfl
          refine ⟨ra4, _, _, _, rb4, rfl, ?_⟩
          intro hv9
          have Y : Sy _ _ hv9 [_, _] := ((Y.stJ 0 rfl _ _).stJ 0 rfl _ _)
          clear_value hv9
          exact ⟨_, _, _, _, _, _, Y.pick [1] rfl, rfl, T⟩
        · refine cnd_imp T (fun T => ?_) (fun T => ?_)
          · refine callX_sy (T _ (Hp.nil _)) (fun _ _ ⟨_, _, _, _, _, _, p, _⟩ => p.fr) (allc (fun h => by cases h) alln) ?_
            rintro v5 hv10 ⟨ra5, raA5, raL5, raC5, ra_6, rb5, PP, rfl, T⟩
            have Y : Sy _ _ hv10 [_, _] := Y.callV PP ⟨rfl, trivial⟩
            clear PP
            obtain rfl := Y.lenS 1 rfl
            refine ⟨ra5, _, _, _, rb5, rfl, ?_⟩
            intro hv11
            have Y : Sy _ _ hv11 [_, _] := ((Y.stJ 0 rfl _ _).stJ 0 rfl _ _)
            clear_value hv11
            exact ⟨_, _, _, _, _, _, Y.pick [1] rfl, rfl, T⟩
          · refine cnd_imp T (fun T => ?_) (fun T => ?_)
            · refine callX_sy (T _ (Hp.nil _)) (fun _ _ ⟨_, _, _, _, _, _, p, _⟩ => p.fr) (allc (fun h => by cases h) alln) ?_
              rintro v6 hv12 ⟨ra6, raA6, raL6, raC6, ra_7, rb6, PP, rfl, T⟩
              have Y : Sy _ _ hv12 [_, _] := Y.callV PP ⟨rfl, trivial⟩
              clear PP
              obtain rfl := Y.lenS 1 rfl
              refine ⟨ra6, _, _, _, rb6, rfl, ?_⟩
              intro hv13
              have Y : Sy _ _ hv13 [_, _] := ((Y.stJ 0 rfl _ _).stJ 0 rfl _ _)
              clear_value hv13
              exact ⟨_, _, _, _, _, _, Y.pick [1] rfl, rfl, T⟩
            · refine cnd_imp T (fun T => ?_) (fun T => ?_)
              · refine callX_sy (T _ (Hp.nil _)) (fun _ _ ⟨_, _, _, _, _, _, p, _⟩ => p.fr) (allc (fun h => by cases h) alln) ?_
                rintro v7 hv14 ⟨ra7, raA7, raL7, raC7, ra_8, rb7, PP, rfl, T⟩
                have Y : Sy _ _ hv14 [_, _] := Y.callV PP ⟨rfl, trivial⟩
                clear PP
                obtain rfl := Y.lenS 1 rfl
                refine ⟨ra7, _, _, _, rb7, rfl, ?_⟩
                intro hv15
                have Y : Sy _ _ hv15 [_, _] := ((Y.stJ 0 rfl _ _).stJ 0 rfl _ _)
                clear_value hv15
                exact ⟨_, _, _, _, _, _, Y.pick [1] rfl, rfl, T⟩
              · refine cnd_imp T (fun T => ?_) (fun T => ?_)
                · refine callX_sy (T _ (Hp.nil _)) (fun _ _ ⟨_, _, _, _, _, _, p, _⟩ => p.fr) (allc (fun h => by cases h) alln) ?_
                  rintro v8 hv16 ⟨ra8, raA8, raL8, raC8, ra_9, rb8, PP, rfl, T⟩
                  have Y : Sy _ _ hv16 [_, _] := Y.callV PP ⟨rfl, trivial⟩
                  clear PP
                  obtain rfl := Y.lenS 1 rfl
                  refine ⟨ra8, _, _, _, rb8, rfl, ?_⟩
                  intro hv17
                  have Y : Sy _ _ hv17 [_, _] := ((Y.stJ 0 rfl _ _).stJ 0 rfl _ _)
                  clear_value hv17
                  exact ⟨_, _, _, _, _, _, Y.pick [1] rfl, rfl, T⟩
                · refine cnd_imp T (fun T => ?_) (fun T => ?_)
                  · refine callX_sy (T _ (Hp.nil _)) (fun _ _ ⟨_, _, _, _, _, _, p, _⟩ => p.fr) (allc (fun h => by cases h) alln) ?_
                    rintro v9 hv18 ⟨ra9, raA9, raL9, raC9, ra_10, rb9, PP, rfl, T⟩
                    have Y : Sy _ _ hv18 [_, _] := Y.callV PP ⟨rfl, trivial⟩
                    clear PP
                    obtain rfl := Y.lenS 1 rfl
                    refine ⟨ra9, _, _, _, rb9, rfl, ?_⟩
                    intro hv19
                    have Y : Sy _ _ hv19 [_, _] := ((Y.stJ 0 rfl _ _).stJ 0 rfl _ _)
                    clear_value hv19
                    exact ⟨_, _, _, _, _, _, Y.pick [1] rfl, rfl, T⟩
                  · refine callX_sy (T _ (Hp.nil _)) (fun _ _ ⟨_, _, _, _, _, _, p, _⟩ => p.fr) (allc (fun h => by cases h) alln) ?_
                    rintro v10 hv20 ⟨ra10, raA10, raL10, raC10, ra_11, rb10, PP, rfl, T⟩
                    have Y : Sy _ _ hv20 [_, _] := Y.callV PP ⟨rfl, trivial⟩
                    clear PP
                    obtain rfl := Y.lenS 1 rfl
                    refine ⟨ra10, _, _, _, rb10, rfl, ?_⟩
                    intro hv21
                    have Y : Sy _ _ hv21 [_, _] := ((Y.stJ 0 rfl _ _).stJ 0 rfl _ _)
                    clear_value hv21
                    exact ⟨_, _, _, _, _, _, Y.pick [1] rfl, rfl, T⟩

/-- tracery/tracerylaw5.MakerAll -/
def S5 (a : Int) (b : Int) (seed : Int) (h : Heap) (R : Value → Heap → Prop) : Prop :=
  callX Try.prog 27 #[] h [] fun v hv =>
  ∃ r : Bool, v = .bool r ∧
  cnd (!r)
    (R (.bool false) hv)
    (callX Try.prog 37 #[] hv [] fun v2 hv2 =>
    ∃ (rA : Option Addr) (rL rC : Nat), v2 = .slice rA rL rC ∧
    ∃ (Iv : List Value → Heap → Prop) (m : List Value → Heap → Nat), Iv [.int .i64 0] hv2 ∧ -- loop 0: ['i']
    ∀ i : Int, ∀ hv3, Iv [.int .i64 i] hv3 →
    cnd (decide (i < ((rL : Nat) : Int)))
      (∃ b2 o, rA = some ⟨b2, o, none⟩ ∧ 0 ≤ i ∧ i < (rL : Nat) ∧ ∃ x : ByteArray, hcell hv3 b2 (o + (Int.toNat i) * 1) = some (.string x) ∧ callX Try.prog 38 #[.string x, .int .i64 a, .int .i64 b, .int .u64 seed] hv3 [] fun v3 hv4 =>
      ∃ ra : Int, ∃ (raA : Option Addr) (raL raC : Nat), ∃ rb : Int, v3 = .tuple #[.agg #[.int .i64 ra, .slice raA raL raC], .int .i64 rb] ∧
      let hv5 : Heap := hv4.push (.cells #[.int .i64 0, .slice none 0 0] 26)
      let hv6 : Heap := hset (hset hv5 hv4.size 0 (.int .i64 ra)) hv4.size (0 + 1) (.slice raA raL raC)
      ∃ (Iv2 : List Value → Heap → Prop) (m2 : List Value → Heap → Nat), Iv2 [.int .i64 0] hv6 ∧ -- loop 2: ['turn']
      ∀ turn : Int, ∀ hv7, Iv2 [.int .i64 turn] hv7 →
      cnd (decide (turn < (2 : Int)))
        (∃ b3 o2, rA = some ⟨b3, o2, none⟩ ∧ 0 ≤ i ∧ i < (rL : Nat) ∧ ∃ x2 : ByteArray, hcell hv7 b3 (o2 + (Int.toNat i) * 1) = some (.string x2) ∧ callX Try.prog 39 #[.string x2, .int .i64 a, .int .i64 b, .int .u64 seed] hv7 [hv4.size] fun v4 hv8 =>
        ∃ ra2 : Int, ∃ (raA2 : Option Addr) (raL2 raC2 : Nat), ∃ rb2 : Int, v4 = .tuple #[.agg #[.int .i64 ra2, .slice raA2 raL2 raC2], .int .i64 rb2] ∧
        let hv9 : Heap := hv8.push (.cells #[.int .i64 0, .slice none 0 0] 26)
        let hv10 : Heap := hset (hset hv9 hv8.size 0 (.int .i64 ra2)) hv8.size (0 + 1) (.slice raA2 raL2 raC2)
        cnd (rb2 != rb)
          (R (.bool false) hv10)
          (callX Try.prog 40 #[.agg #[.int .i64 ra2, .slice raA2 raL2 raC2], .agg #[.int .i64 ra, .slice raA raL raC]] hv10 [hv8.size, hv4.size] fun v5 hv11 =>
          ∃ r2 : Bool, v5 = .bool r2 ∧
          cnd (!r2)
            (R (.bool false) hv11)
            (callX Try.prog 41 #[.agg #[.int .i64 ra2, .slice raA2 raL2 raC2]] hv11 [hv8.size, hv4.size] fun v6 hv12 =>
            v6 = .tuple #[] ∧
            Iv2 [.int .i64 (IntKind.i64.wrap (turn + (1 : Int)))] hv12 ∧ m2 [.int .i64 (IntKind.i64.wrap (turn + (1 : Int)))] hv12 < m2 [.int .i64 turn] hv7)))
        (Iv [.int .i64 (IntKind.i64.wrap (i + (1 : Int)))] hv7 ∧ m [.int .i64 (IntKind.i64.wrap (i + (1 : Int)))] hv7 < m [.int .i64 i] hv3))
      (R (.bool true) hv3))

theorem calls5 {h : Heap} {R : Value → Heap → Prop} (a : Int) (b : Int) (seed : Int) (H : S5 a b seed h R) : CallsH Try.prog 5 #[.int .i64 a, .int .i64 b, .int .u64 seed] h R := by
  have e : S5 a b seed h R = FX (envX [9, 12] 60) { loops := [(0, ⟨[0, 1, 2, 7], [8], [], []⟩), (2, ⟨[0, 1, 2, 7, 8, 9, 10], [11], [9], []⟩)], joins := [], blocks := [], draws := [] } Try.f5 (Try.f5.body.getD .skip) [.int .i64 a, .int .i64 b, .int .u64 seed] h R := by kernel_rfl
  exact calls_of_FX (envX_ok _ _) Try.func5 (by kernel_rfl) (by kernel_rfl) (by kernel_rfl) (e ▸ H)

/-- tracery/tracerylaw5.MakerAll -/
def Ok5 (a : Int) (b : Int) (seed : Int) (R : Bool → Prop) : Prop :=
  ∀ (h : Heap), Hp h [] → CallsH Try.prog 5 #[.int .i64 a, .int .i64 b, .int .u64 seed] h fun v h' => ∃ (rV : Bool), Sy h [] h' [] ∧ v = .bool rV ∧ R rV
theorem Ok5.mono {a b seed} {R R' : Bool → Prop} (H : Ok5 a b seed R) (kz : ∀ rV, R rV → R' rV) : Ok5 a b seed R' :=
  fun h  hp => (H h  hp).mono fun _ _ ⟨rV, P, e, q⟩ => ⟨rV, P, e, kz _ q⟩

def T5 (a : Int) (b : Int) (seed : Int) (R : Bool → Prop) : Prop :=
  Ok27 (fun r =>
  cnd (!r)
    (R false)
    (Ok37 (fun r_2 =>
    ∃ (Iv : Int → Prop) (m : Int → Nat), Iv 0 ∧
    ∀ i : Int, Iv i →
    cnd (decide (i < ((r_2.length : Nat) : Int)))
      (0 ≤ i ∧ i < ((r_2.length : Nat) : Int) ∧ ∀ r_3 : ByteArray, r_2[(Int.toNat i)]? = some r_3 → Ok38 r_3 a b seed (fun ra ra_2 rb =>
      ∃ (Iv2 : Int → Prop) (m2 : Int → Nat), Iv2 0 ∧
      ∀ turn : Int, Iv2 turn →
      cnd (decide (turn < (2 : Int)))
        (Ok39 r_3 a b seed (fun ra2 ra_3 rb2 =>
        cnd (rb2 != rb)
          (R false)
          (Ok40 ra2 ra_3 ra ra_2 (fun r2 =>
          cnd (!r2)
            (R false)
            (Ok41 ra2 ra_3 (Iv2 (IntKind.i64.wrap (turn + (1 : Int))) ∧ m2 (IntKind.i64.wrap (turn + (1 : Int))) < m2 turn))))))
        (Iv (IntKind.i64.wrap (i + (1 : Int))) ∧ m (IntKind.i64.wrap (i + (1 : Int))) < m i)))
      (R true))))

theorem ok5 {a b seed} {R : Bool → Prop} (T : T5 a b seed R) : Ok5 a b seed R := by
  intro h  H
  have Y : Sy h [] h _ := Sy.startM H rfl
  apply calls5
  unfold S5
  unfold T5 at T
  refine callX_sy (T _ (Hp.nil _)) (fun _ _ ⟨_, p, _⟩ => p.fr) alln ?_
  rintro v hv ⟨r, PP, rfl, T⟩
  have Y : Sy _ _ hv [] := Y.gr PP.fr
  clear PP
  refine ⟨r, rfl, ?_⟩
  refine cnd_imp T (fun T => ?_) (fun T => ?_)
  · exact ⟨_, Y.pick [] rfl, rfl, T⟩
  · refine callX_sy (T _ (Hp.nil _)) (fun _ _ ⟨_, _, _, _, p, _⟩ => p.fr) alln ?_
    rintro v2 hv2 ⟨rA, rL, rC, r_2, PP, rfl, T⟩
    have Y : Sy _ _ hv2 [_] := Y.callV PP ⟨rfl, trivial⟩
    clear PP
    obtain rfl := Y.lenS 0 rfl
    refine ⟨_, _, _, rfl, ?_⟩
    obtain ⟨Iv, m, T0, T1⟩ := T
    obtain ⟨B, hB, YB⟩ := Y.cut [] [0] rfl
    obtain ⟨JJ, hJJ⟩ : ∃ JJ : Nat → List Value → Heap → Prop, JJ = (fun k lz h' => ∃ (i : Int), lz = [.int .i64 i] ∧ Sy h [] h' ([] ++ B) ∧ Iv i ∧ m i = k) := ⟨_, rfl⟩
    refine ⟨fun lz h' => ∃ k, JJ k lz h', Lm JJ, ?_, ?_⟩
    · subst hJJ hB
      exact ⟨_, _, rfl, YB, T0, rfl⟩
    · clear YB T0 Y
      intro i hv3 hI
      obtain ⟨k, hI, hm⟩ := loopIn hI
      subst hJJ hB
      obtain ⟨i, e, Y, T, rfl⟩ := hI
      cases e
      replace T := T1 i T
      have Y : Sy _ _ _ [_] := Y
      refine cnd_imp T (fun T => ?_) (fun T => ?_)
      · obtain ⟨q, q_2, T⟩ := T
        obtain ⟨b_2, hb, ho, r_3, hx⟩ := Y.atS 0 rfl q q_2
        refine ⟨b_2, 0, hb, q, q_2, ?_⟩
        replace T := T r_3 hx
        refine ⟨_, Y.cellS 0 rfl hb (t := 0) hx rfl, ?_⟩
        refine callX_sy (T _ (Hp.nil _)) (fun _ _ ⟨_, _, _, _, _, _, p, _⟩ => p.fr) alln ?_
        rintro v3 hv4 ⟨ra, raA, raL, raC, ra_2, rb, PP, rfl, T⟩
        have Y : Sy _ _ hv4 [_, _] := Y.callV PP ⟨rfl, trivial⟩
        clear PP
        obtain rfl := Y.lenS 1 rfl
        refine ⟨ra, _, _, _, rb, rfl, ?_⟩
        intro hv5
        have Y : Sy _ _ hv5 [_, _, _] := Y.junk _
        clear_value hv5
        intro hv6
        have Y : Sy _ _ hv6 [_, _, _] := ((Y.stJ 2 rfl _ _).stJ 2 rfl _ _)
        clear_value hv6
        obtain ⟨Iv2, m2, T0, T1⟩ := T
        obtain ⟨B_2, hB_2, YB⟩ := Y.cut [] [0, 1, 2] rfl
        obtain ⟨JJ_2, hJJ_2⟩ : ∃ JJ_2 : Nat → List Value → Heap → Prop, JJ_2 = (fun k_2 lz h' => ∃ (turn : Int), lz = [.int .i64 turn] ∧ Sy h [] h' ([] ++ B_2) ∧ Iv2 turn ∧ m2 turn = k_2) := ⟨_, rfl⟩
        refine ⟨fun lz h' => ∃ k_2, JJ_2 k_2 lz h', Lm JJ_2, ?_, ?_⟩
        · subst hJJ_2 hB_2
          exact ⟨_, _, rfl, YB, T0, rfl⟩
        · clear YB T0 Y
          intro turn hv7 hI
          obtain ⟨k_2, hI, hm_2⟩ := loopIn hI
          subst hJJ_2 hB_2
          obtain ⟨turn, e, Y, T, rfl⟩ := hI
          cases e
          replace T := T1 turn T
          have Y : Sy _ _ _ [_, _, _] := Y
          refine cnd_imp T (fun T => ?_) (fun T => ?_)
          · refine ⟨b_2, 0, hb, q, q_2, ?_⟩
            refine ⟨_, Y.cellS 0 rfl hb (t := 0) hx rfl, ?_⟩
            refine callX_sy (T _ (Hp.nil _)) (fun _ _ ⟨_, _, _, _, _, _, p, _⟩ => p.fr) (allc (fun h => by cases h) alln) ?_
            rintro v4 hv8 ⟨ra2, raA2, raL2, raC2, ra_3, rb2, PP, rfl, T⟩
            have Y : Sy _ _ hv8 [_, _, _, _] := Y.callV PP ⟨rfl, trivial⟩
            clear PP
            obtain rfl := Y.lenS 3 rfl
            refine ⟨ra2, _, _, _, rb2, rfl, ?_⟩
            intro hv9
            have Y : Sy _ _ hv9 [_, _, _, _, _] := Y.junk _
            clear_value hv9
            intro hv10
            have Y : Sy _ _ hv10 [_, _, _, _, _] := ((Y.stJ 4 rfl _ _).stJ 4 rfl _ _)
            clear_value hv10
            refine cnd_imp T (fun T => ?_) (fun T => ?_)
            · exact ⟨_, Y.pick [] rfl, rfl, T⟩
            · refine callX_sy (T _ _ _ _ _ _ _ (((Y.turn 3 rfl To.slvw).turn 1 rfl To.slvw).pick [3, 1] rfl).hp) (fun _ _ ⟨_, p, _⟩ => p.fr) (allc (fun h => by cases h) (allc (fun h => by cases h) alln)) ?_
              rintro v5 hv11 ⟨r2, PP, rfl, T⟩
              have Y : Sy _ _ hv11 [_, _, _, _, _] := Y.gr PP.fr
              clear PP
              refine ⟨r2, rfl, ?_⟩
              refine cnd_imp T (fun T => ?_) (fun T => ?_)
              · exact ⟨_, Y.pick [] rfl, rfl, T⟩
              · refine callX_sy (T _ _ _ _ (Y.pick [3] rfl).hp) (fun _ _ ⟨p, _⟩ => p.fr) (allc (Y.nO 4 [3] rfl rfl) (allc (Y.nO 2 [3] rfl rfl) alln)) ?_
                rintro v6 hv12 ⟨PP, rfl, T⟩
                have Y : Sy _ _ hv12 [_, _, _, _] := Y.call2 [3, 0, 1, 2, 4] rfl (A := [_]) rfl rfl PP trivial
                clear PP
                refine ⟨rfl, ?_⟩
                exact loopBack hm_2 ⟨_, rfl, Y.pick [0, 1, 2] rfl, T.1, rfl⟩ T.2
          · exact loopBack hm ⟨_, rfl, Y.pick [0] rfl, T.1, rfl⟩ T.2
      · exact ⟨_, Y.pick [] rfl, rfl, T⟩

end Go.Proofs.Ytmcloipjlihhlaa.N
