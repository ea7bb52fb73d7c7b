/- Functions: what is left to be shown of each, over memory and without: printed by program, tied to the loaded functions by the kernel. Conditions: none. -/
import Derived.Test.YtmcloipjlihhlaaSEnv
import Derived.Test.YtmcloipjlihhlaaYMore
import Derived.Test.YtmcloipjlihhlaaTKura
namespace Go.Proofs.Ytmcloipjlihhlaa.N
open Go.Proofs.Ytmcloipjlihhlaa
open Go.X
set_option maxRecDepth 100000
set_option linter.unusedVariables false
set_option linter.unusedSimpArgs false
set_option maxHeartbeats 2000000

/-- tracery/tracerylaw12.upto -/
def S111 (n : Int) (h : Heap) (R : Value → Heap → Prop) : Prop :=
  ∃ (Iv : List Value → Heap → Prop) (m : List Value → Heap → Nat), Iv [.slice none 0 0, .int .i64 0] h ∧ -- loop 0: ['l', 'i']
  ∀ (lA : Option Addr) (lL lC : Nat), ∀ i : Int, ∀ hv, Iv [.slice lA lL lC, .int .i64 i] hv →
  cnd (decide (i < n))
    (let hv2 : Heap := hv.push (.cells #[.int .i64 i] 3)
    ∃ old, Ownd hv2 3 1 lA lL lC old ∧ (∀ b ∈ ([hv.size] : List Nat), b ∉ blkOf lA) ∧ (lL + 1) * 8 ≤ 140737488355328 ∧ (lL + 1) ≤ maxLen ∧
    ∀ sA sC hv3, Ownd hv3 3 1 sA (lL + 1) sC (old ++ [.int .i64 i]) → Fr (blkOf lA) hv2 hv3 → ((sA = lA ∧ sC = lC) ∨ ∃ g, sA = some ⟨g, 0, none⟩ ∧ hv2.size ≤ g) → (lC < (lL + 1) → Fr [] hv2 hv3) →
    Iv [.slice sA (lL + 1) sC, .int .i64 (IntKind.i64.wrap (i + (1 : Int)))] hv3 ∧ m [.slice sA (lL + 1) sC, .int .i64 (IntKind.i64.wrap (i + (1 : Int)))] hv3 < m [.slice lA lL lC, .int .i64 i] hv)
    (R (.slice lA lL lC) hv)
theorem calls111 {h : Heap} {R : Value → Heap → Prop} (n : Int) (H : S111 n h R) : CallsH Try.prog 111 #[.int .i64 n] h R := by
  have e : S111 n h R = FX (envX [12] 15) { loops := [(0, ⟨[0], [3, 4], [], []⟩)], joins := [], blocks := [], draws := [] } Try.f111 (Try.f111.body.getD .skip) [.int .i64 n] h R := by kernel_rfl
  exact calls_of_FX (envX_ok _ _) Try.func111 (by kernel_rfl) (by kernel_rfl) (by kernel_rfl) (e ▸ H)
/-- tracery/tracerylaw12.upto -/
def Ok111 (n : Int) (R : List Int → Prop) : Prop :=
  ∀ (h : Heap), Hp h [] → CallsH Try.prog 111 #[.int .i64 n] h fun v h' => ∃ (rVA : Option Addr) (rVL rVC : Nat) (rV : List Int), Sy h [] h' [Ck.sl eI 3 rVA rVL rVC rV] ∧ v = .slice rVA rVL rVC ∧ R rV
theorem Ok111.mono {n} {R R' : List Int → Prop} (H : Ok111 n R) (kz : ∀ rV, R rV → R' rV) : Ok111 n R' :=
  fun h  hp => (H h  hp).mono fun _ _ ⟨rVA, rVL, rVC, rV, P, e, q⟩ => ⟨rVA, rVL, rVC, rV, P, e, kz _ q⟩
def T111 (n : Int) (R : List Int → Prop) : Prop :=
  ∃ (Iv : List Int → Int → Prop) (m : List Int → Int → Nat), Iv ([] : List Int) 0 ∧
  ∀ l : List Int, ∀ i : Int, Iv l i →
  cnd (decide (i < n))
    ((l.length + 1) < 1000000000000 ∧ Iv (l ++ [i]) (IntKind.i64.wrap (i + (1 : Int))) ∧ m (l ++ [i]) (IntKind.i64.wrap (i + (1 : Int))) < m l i)
    (R l)
theorem ok111 {n} {R : List Int → Prop} (T : T111 n R) : Ok111 n R := by
  intro h  H
  have Y : Sy h [] h _ := Sy.startM H rfl
  apply calls111
  unfold S111
  unfold T111 at T
  have Y : Sy _ _ _ [_] := Y.nilS eI 3
  obtain ⟨Iv, m, T0, T1⟩ := T
  obtain ⟨B, hB, YB⟩ := Y.cut [0] [] rfl
  obtain ⟨JJ, hJJ⟩ : ∃ JJ : Nat → List Value → Heap → Prop, JJ = (fun k lz h' => ∃ (lA : Option Addr) (lL lC : Nat) (l : List Int) (i : Int), lz = [.slice lA lL lC, .int .i64 i] ∧ Sy h [] h' ([Ck.sl eI 3 lA lL lC l] ++ B) ∧ Iv l i ∧ m l i = k) := ⟨_, rfl⟩
  refine ⟨fun lz h' => ∃ k, JJ k lz h', Lm JJ, ?_, ?_⟩
  · subst hJJ hB
    exact ⟨_, _, _, _, _, _, rfl, YB, T0, rfl⟩
  · clear YB T0 Y
    intro lA lL lC i hv hI
    obtain ⟨k, hI, hm⟩ := loopIn hI
    subst hJJ hB
    obtain ⟨lA, lL, lC, l, i, e, Y, T, rfl⟩ := hI
    cases e
    obtain rfl := Y.lenS 0 rfl
    replace T := T1 l i T
    have Y : Sy _ _ _ [_] := Y
    refine cnd_imp T (fun T => ?_) (fun T => ?_)
    · intro hv2
      have Y : Sy _ _ hv2 [_, _] := Y.junk _
      clear_value hv2
      obtain ⟨q, T⟩ := T
      refine ⟨_, Y.ownS 0 rfl, (allc (Y.nJ 0 1 rfl rfl rfl) alln), by first | exact appB q (by decide) | omega, by first | exact appM q | (simp [maxLen]; omega), ?_⟩
      intro sA sC hv3 ow fA gA gB
      have Y : Sy _ _ hv3 [_, _] := Y.appS 0 rfl ([i] : List Int) ow fA gA rfl rfl
      exact loopBack hm ⟨_, _, _, _, _, rfl, Y.pick [0] rfl, T.1, rfl⟩ T.2
    · exact ⟨_, _, _, _, Y.pick [0] rfl, rfl, T⟩
/-- tracery/tracerylaw12.begun -/
def S58  (h : Heap) (R : Value → Heap → Prop) : Prop :=
  callX Try.prog 38 #[.string (⟨#[99, 111, 109, 112, 108, 101, 116, 101]⟩ : ByteArray), .int .i64 5, .int .i64 0, .int .u64 0] h [] fun v hv =>
  ∃ ra : Int, ∃ (raA : Option Addr) (raL raC : Nat), ∃ rb : Int, v = .tuple #[.agg #[.int .i64 ra, .slice raA raL raC], .int .i64 rb] ∧
  let hv2 : Heap := hv.push (.cells #[.int .i64 0, .slice none 0 0] 26)
  let hv3 : Heap := hset (hset hv2 hv.size 0 (.int .i64 ra)) hv.size (0 + 1) (.slice raA raL raC)
  callX Try.prog 38 #[.string (⟨#[116, 119, 111]⟩ : ByteArray), .int .i64 3, .int .i64 3, .int .u64 0] hv3 [hv.size] fun v2 hv4 =>
  ∃ ra2 : Int, ∃ (raA2 : Option Addr) (raL2 raC2 : Nat), ∃ rb2 : Int, v2 = .tuple #[.agg #[.int .i64 ra2, .slice raA2 raL2 raC2], .int .i64 rb2] ∧
  let hv5 : Heap := hv4.push (.cells #[.int .i64 0, .slice none 0 0] 26)
  let hv6 : Heap := hset (hset hv5 hv4.size 0 (.int .i64 ra2)) hv4.size (0 + 1) (.slice raA2 raL2 raC2)
  callX Try.prog 111 #[.int .i64 10] hv6 [hv4.size, hv.size] fun v3 hv7 =>
  ∃ (rA : Option Addr) (rL rC : Nat), v3 = .slice rA rL rC ∧
  Fr [] hv6 hv7 ∧
  callX Try.prog 64 #[.agg #[.int .i64 ra, .slice raA raL raC], .slice rA rL rC] hv7 [hv4.size, hv.size] fun v4 hv8 =>
  ∃ ra3 : Int, ∃ rb3 : Int, v4 = .tuple #[.int .i64 ra3, .int .i64 rb3] ∧
  Fr [] hv6 hv8 ∧
  callX Try.prog 111 #[.int .i64 9] hv8 [hv4.size, hv.size] fun v5 hv9 =>
  ∃ (rA2 : Option Addr) (rL2 rC2 : Nat), v5 = .slice rA2 rL2 rC2 ∧
  Fr [] hv8 hv9 ∧
  callX Try.prog 64 #[.agg #[.int .i64 ra2, .slice raA2 raL2 raC2], .slice rA2 rL2 rC2] hv9 [hv4.size, hv.size] fun v6 hv10 =>
  ∃ ra4 : Int, ∃ rb4 : Int, v6 = .tuple #[.int .i64 ra4, .int .i64 rb4] ∧
  Fr [] hv8 hv10 ∧
  callX Try.prog 111 #[.int .i64 9] hv10 [hv4.size, hv.size] fun v7 hv11 =>
  ∃ (rA3 : Option Addr) (rL3 rC3 : Nat), v7 = .slice rA3 rL3 rC3 ∧
  Fr [] hv10 hv11 ∧
  callX Try.prog 65 #[.agg #[.int .i64 ra2, .slice raA2 raL2 raC2], .slice rA3 rL3 rC3] hv11 [hv4.size, hv.size] fun v8 hv12 =>
  ∃ (raA3 : Option Addr) (raL3 raC3 : Nat), ∃ rb5 : Int, v8 = .tuple #[.slice raA3 raL3 raC3, .int .i64 rb5] ∧
  Fr [] hv10 hv12 ∧
  callX Try.prog 111 #[.int .i64 10] hv12 [hv4.size, hv.size] fun v9 hv13 =>
  ∃ (rA4 : Option Addr) (rL4 rC4 : Nat), v9 = .slice rA4 rL4 rC4 ∧
  Fr [] hv12 hv13 ∧
  callX Try.prog 66 #[.agg #[.int .i64 ra, .slice raA raL raC], .slice rA4 rL4 rC4] hv13 [hv4.size, hv.size] fun v10 hv14 =>
  ∃ (raA4 : Option Addr) (raL4 raC4 : Nat), ∃ rb6 : Int, v10 = .tuple #[.slice raA4 raL4 raC4, .int .i64 rb6] ∧
  Fr [] hv12 hv14 ∧
  let K := fun (p : Nat) (c : Int) (cA : Option Addr) (cL cC : Nat) (k : Int) (hv26 : Heap) =>
    (cnd (ra3 == (5 : Int))
      (cnd (rb3 == (0 : Int))
        (cnd (ra4 == (33 : Int))
          (cnd (rb4 == (0 : Int))
            (cnd (((raL3 : Nat) : Int) == (6 : Int))
              (cnd (rb5 == (0 : Int))
                (cnd (((raL4 : Nat) : Int) == (10 : Int))
                  (cnd (rb6 == (0 : Int))
                    (cnd (((cL : Nat) : Int) == (10 : Int))
                      (R (.bool (k == (0 : Int))) hv26)
                      (R (.bool false) hv26))
                    (R (.bool false) hv26))
                  (R (.bool false) hv26))
                (R (.bool false) hv26))
              (R (.bool false) hv26))
            (R (.bool false) hv26))
          (R (.bool false) hv26))
        (R (.bool false) hv26))
      (R (.bool false) hv26))
  ∃ Mv : List Nat, (∀ b ∈ ([hv4.size, hv.size] : List Nat), b ∉ Mv) ∧
  (callX Try.prog 111 #[.int .i64 10] hv14 [hv4.size, hv.size] fun v11 hv15 =>
  ∃ (rA5 : Option Addr) (rL5 rC5 : Nat), v11 = .slice rA5 rL5 rC5 ∧
  Fr Mv hv14 hv15 ∧
  (callX Try.prog 67 #[.agg #[.int .i64 ra, .slice raA raL raC], .slice rA5 rL5 rC5] hv15 [hv4.size, hv.size] fun v12 hv16 =>
  ∃ ra5 : Int, ∃ (raA5 : Option Addr) (raL5 raC5 : Nat), ∃ rb7 : Int, v12 = .tuple #[.agg #[.int .i64 ra5, .slice raA5 raL5 raC5], .int .i64 rb7] ∧
  Fr Mv hv14 hv16 ∧
  let hv17 : Heap := hv16.push (.cells #[.int .i64 0, .slice none 0 0] 26)
  Fr Mv hv14 hv17 ∧
  let hv18 : Heap := hset (hset hv17 hv16.size 0 (.int .i64 ra5)) hv16.size (0 + 1) (.slice raA5 raL5 raC5)
  Fr Mv hv14 hv18 ∧
  K hv16.size ra5 raA5 raL5 raC5 rb7 hv18)
  ∧ ( let hv19 : Heap := hv15.push (.cells #[.int .i64 0, .slice none 0 0] 26)
   Fr Mv hv14 hv19 ∧
   callX Try.prog 67 #[.agg #[.int .i64 ra, .slice raA raL raC], .slice rA5 rL5 rC5] hv19 [hv15.size, hv4.size, hv.size] fun v13 hv20 =>
   ∃ ra6 : Int, ∃ (raA6 : Option Addr) (raL6 raC6 : Nat), ∃ rb8 : Int, v13 = .tuple #[.agg #[.int .i64 ra6, .slice raA6 raL6 raC6], .int .i64 rb8] ∧
   Fr Mv hv14 hv20 ∧
   let hv21 : Heap := hset (hset hv20 hv15.size 0 (.int .i64 ra6)) hv15.size (0 + 1) (.slice raA6 raL6 raC6)
   Fr Mv hv14 hv21 ∧
   K hv15.size ra6 raA6 raL6 raC6 rb8 hv21))
  ∧ ( let hv22 : Heap := hv14.push (.cells #[.int .i64 0, .slice none 0 0] 26)
   Fr Mv hv14 hv22 ∧
   callX Try.prog 111 #[.int .i64 10] hv22 [hv14.size, hv4.size, hv.size] fun v14 hv23 =>
   ∃ (rA6 : Option Addr) (rL6 rC6 : Nat), v14 = .slice rA6 rL6 rC6 ∧
   Fr Mv hv14 hv23 ∧
   callX Try.prog 67 #[.agg #[.int .i64 ra, .slice raA raL raC], .slice rA6 rL6 rC6] hv23 [hv14.size, hv4.size, hv.size] fun v15 hv24 =>
   ∃ ra7 : Int, ∃ (raA7 : Option Addr) (raL7 raC7 : Nat), ∃ rb9 : Int, v15 = .tuple #[.agg #[.int .i64 ra7, .slice raA7 raL7 raC7], .int .i64 rb9] ∧
   Fr Mv hv14 hv24 ∧
   let hv25 : Heap := hset (hset hv24 hv14.size 0 (.int .i64 ra7)) hv14.size (0 + 1) (.slice raA7 raL7 raC7)
   Fr Mv hv14 hv25 ∧
   K hv14.size ra7 raA7 raL7 raC7 rb9 hv25)
theorem calls58 {h : Heap} {R : Value → Heap → Prop}  (H : S58  h R) : CallsH Try.prog 58 #[] h R := by
  have e : S58  h R = FX (envX [1, 3, 13] 95) { loops := [], joins := [], blocks := [], draws := [(3, ⟨8, false⟩), (4, ⟨8, false⟩), (5, ⟨8, false⟩), (6, ⟨8, false⟩), (7, ⟨9, true⟩)] } Try.f58 (Try.f58.body.getD .skip) [] h R := by kernel_rfl
  exact calls_of_FX (envX_ok _ _) Try.func58 (by kernel_rfl) (by kernel_rfl) (by kernel_rfl) (e ▸ H)
/-- tracery/tracerylaw12.begun -/
def Ok58  (R : Bool → Prop) : Prop :=
  ∀ (h : Heap), Hp h [] → CallsH Try.prog 58 #[] h fun v h' => ∃ (rV : Bool), Sy h [] h' [] ∧ v = .bool rV ∧ R rV
theorem Ok58.mono {R R' : Bool → Prop} (H : Ok58  R) (kz : ∀ rV, R rV → R' rV) : Ok58  R' :=
  fun h  hp => (H h  hp).mono fun _ _ ⟨rV, P, e, q⟩ => ⟨rV, P, e, kz _ q⟩
def T58  (R : Bool → Prop) : Prop :=
  Ok38 (⟨#[99, 111, 109, 112, 108, 101, 116, 101]⟩ : ByteArray) 5 0 0 (fun ra ra_2 rb =>
  Ok38 (⟨#[116, 119, 111]⟩ : ByteArray) 3 3 0 (fun ra2 ra_3 rb2 =>
  Ok111 10 (fun r =>
  Ok64 ra ra_2 r (fun ra3 rb3 =>
  Ok111 9 (fun r_2 =>
  Ok64 ra2 ra_3 r_2 (fun ra4 rb4 =>
  Ok111 9 (fun r_3 =>
  Ok65 ra2 ra_3 r_3 (fun ra_4 rb5 =>
  Ok111 10 (fun r_4 =>
  Ok66 ra ra_2 r_4 (fun ra_5 rb6 =>
  ∃ Jv : Int → List (Int × Int) → Int → Prop,
  ( Ok111 10 (fun r_5 =>
   Ok67 ra ra_2 r_5 (fun ra5 ra_6 rb7 =>
   Jv ra5 ra_6 rb7))) ∧
  ∀ c : Int, ∀ c_2 : List (Int × Int), ∀ k : Int, Jv c c_2 k →
  cnd (ra3 == (5 : Int))
    (cnd (rb3 == (0 : Int))
      (cnd (ra4 == (33 : Int))
        (cnd (rb4 == (0 : Int))
          (cnd (((ra_4.length : Nat) : Int) == (6 : Int))
            (cnd (rb5 == (0 : Int))
              (cnd (((ra_5.length : Nat) : Int) == (10 : Int))
                (cnd (rb6 == (0 : Int))
                  (cnd (((c_2.length : Nat) : Int) == (10 : Int))
                    (R (k == (0 : Int)))
                    (R false))
                  (R false))
                (R false))
              (R false))
            (R false))
          (R false))
        (R false))
      (R false))
    (R false)))))))))))
theorem ok58 {R : Bool → Prop} (T : T58  R) : Ok58  R := by
  intro h  H
  have Y : Sy h [] h _ := Sy.startM H rfl
  apply calls58
  unfold S58
  unfold T58 at T
  refine callX_sy (T _ (Hp.nil _)) (fun _ _ ⟨_, _, _, _, _, _, p, _⟩ => p.fr) alln ?_
  rintro v hv ⟨ra, raA, raL, raC, ra_2, rb, PP, rfl, T⟩
  have Y : Sy _ _ hv [_] := Y.callV PP ⟨rfl, trivial⟩
  clear PP
  obtain rfl := Y.lenS 0 rfl
  refine ⟨ra, _, _, _, rb, rfl, ?_⟩
  intro hv2
  have Y : Sy _ _ hv2 [_, _] := Y.junk _
  clear_value hv2
  intro hv3
  have Y : Sy _ _ hv3 [_, _] := ((Y.stJ 1 rfl _ _).stJ 1 rfl _ _)
  clear_value hv3
  refine callX_sy (T _ (Hp.nil _)) (fun _ _ ⟨_, _, _, _, _, _, p, _⟩ => p.fr) (allc (fun h => by cases h) alln) ?_
  rintro v2 hv4 ⟨ra2, raA2, raL2, raC2, ra_3, rb2, PP, rfl, T⟩
  have Y : Sy _ _ hv4 [_, _, _] := Y.callV PP ⟨rfl, trivial⟩
  clear PP
  obtain rfl := Y.lenS 2 rfl
  refine ⟨ra2, _, _, _, rb2, rfl, ?_⟩
  intro hv5
  have Y : Sy _ _ hv5 [_, _, _, _] := Y.junk _
  clear_value hv5
  intro hv6
  have Y : Sy _ _ hv6 [_, _, _, _] := ((Y.stJ 3 rfl _ _).stJ 3 rfl _ _)
  clear_value hv6
  have Y0 := Y
  have F : Fr [] hv6 hv6 := Fr.refl _ _
  refine callX_sy (T _ (Hp.nil _)) (fun _ _ ⟨_, _, _, _, p, _⟩ => p.fr) (allc (fun h => by cases h) (allc (fun h => by cases h) alln)) ?_
  rintro v3 hv7 ⟨rA, rL, rC, r, PP, rfl, T⟩
  have F : Fr _ _ hv7 := F.trans PP.fr.nil
  have fshv7 := F.size
  have Y : Sy _ _ hv7 [_, _, _, _, _] := Y.callV PP ⟨rfl, trivial⟩
  clear PP
  obtain rfl := Y.lenS 4 rfl
  refine ⟨_, _, _, rfl, ?_⟩
  refine ⟨F, ?_⟩
  refine callX_sy (T _ _ _ _ _ _ _ (((Y.turn 0 rfl To.slvw).turn 4 rfl To.slvw).pick [0, 4] rfl).hp) (fun _ _ ⟨_, _, p, _⟩ => p.fr) (allc (fun h => by cases h) (allc (fun h => by cases h) alln)) ?_
  rintro v4 hv8 ⟨ra3, rb3, PP, rfl, T⟩
  have F : Fr _ _ hv8 := F.trans PP.fr.nil
  have fshv8 := F.size
  have Y : Sy _ _ hv8 [_, _, _, _, _] := Y.gr PP.fr
  clear PP
  refine ⟨ra3, rb3, rfl, ?_⟩
  refine ⟨F, ?_⟩
  have Y0 := Y
  have F : Fr [] hv8 hv8 := Fr.refl _ _
  refine callX_sy (T _ (Hp.nil _)) (fun _ _ ⟨_, _, _, _, p, _⟩ => p.fr) (allc (fun h => by cases h) (allc (fun h => by cases h) alln)) ?_
  rintro v5 hv9 ⟨rA2, rL2, rC2, r_2, PP, rfl, T⟩
  have F : Fr _ _ hv9 := F.trans PP.fr.nil
  have fshv9 := F.size
  have Y : Sy _ _ hv9 [_, _, _, _, _, _] := Y.callV PP ⟨rfl, trivial⟩
  clear PP
  obtain rfl := Y.lenS 5 rfl
  refine ⟨_, _, _, rfl, ?_⟩
  refine ⟨F, ?_⟩
  refine callX_sy (T _ _ _ _ _ _ _ (((Y.turn 2 rfl To.slvw).turn 5 rfl To.slvw).pick [2, 5] rfl).hp) (fun _ _ ⟨_, _, p, _⟩ => p.fr) (allc (fun h => by cases h) (allc (fun h => by cases h) alln)) ?_
  rintro v6 hv10 ⟨ra4, rb4, PP, rfl, T⟩
  have F : Fr _ _ hv10 := F.trans PP.fr.nil
  have fshv10 := F.size
  have Y : Sy _ _ hv10 [_, _, _, _, _, _] := Y.gr PP.fr
  clear PP
  refine ⟨ra4, rb4, rfl, ?_⟩
  refine ⟨F, ?_⟩
  have Y0 := Y
  have F : Fr [] hv10 hv10 := Fr.refl _ _
  refine callX_sy (T _ (Hp.nil _)) (fun _ _ ⟨_, _, _, _, p, _⟩ => p.fr) (allc (fun h => by cases h) (allc (fun h => by cases h) alln)) ?_
  rintro v7 hv11 ⟨rA3, rL3, rC3, r_3, PP, rfl, T⟩
  have F : Fr _ _ hv11 := F.trans PP.fr.nil
  have fshv11 := F.size
  have Y : Sy _ _ hv11 [_, _, _, _, _, _, _] := Y.callV PP ⟨rfl, trivial⟩
  clear PP
  obtain rfl := Y.lenS 6 rfl
  refine ⟨_, _, _, rfl, ?_⟩
  refine ⟨F, ?_⟩
  refine callX_sy (T _ _ _ _ _ _ _ (((Y.turn 2 rfl To.slvw).turn 6 rfl To.slvw).pick [2, 6] rfl).hp) (fun _ _ ⟨_, _, _, _, _, p, _⟩ => p.fr) (allc (fun h => by cases h) (allc (fun h => by cases h) alln)) ?_
  rintro v8 hv12 ⟨raA3, raL3, raC3, ra_4, rb5, PP, rfl, T⟩
  have F : Fr _ _ hv12 := F.trans PP.fr.nil
  have fshv12 := F.size
  have Y : Sy _ _ hv12 [_, _, _, _, _, _, _, _] := Y.callV PP ⟨rfl, trivial⟩
  clear PP
  obtain rfl := Y.lenS 7 rfl
  refine ⟨_, _, _, rb5, rfl, ?_⟩
  refine ⟨F, ?_⟩
  have Y0 := Y
  have F : Fr [] hv12 hv12 := Fr.refl _ _
  refine callX_sy (T _ (Hp.nil _)) (fun _ _ ⟨_, _, _, _, p, _⟩ => p.fr) (allc (fun h => by cases h) (allc (fun h => by cases h) alln)) ?_
  rintro v9 hv13 ⟨rA4, rL4, rC4, r_4, PP, rfl, T⟩
  have F : Fr _ _ hv13 := F.trans PP.fr.nil
  have fshv13 := F.size
  have Y : Sy _ _ hv13 [_, _, _, _, _, _, _, _, _] := Y.callV PP ⟨rfl, trivial⟩
  clear PP
  obtain rfl := Y.lenS 8 rfl
  refine ⟨_, _, _, rfl, ?_⟩
  refine ⟨F, ?_⟩
  refine callX_sy (T _ _ _ _ _ _ _ (((Y.turn 0 rfl To.slvw).turn 8 rfl To.slvw).pick [0, 8] rfl).hp) (fun _ _ ⟨_, _, _, _, _, _, p, _⟩ => p.fr) (allc (fun h => by cases h) (allc (fun h => by cases h) alln)) ?_
  rintro v10 hv14 ⟨raA4, raL4, raC4, raH, ra_5, rb6, PP, rfl, T⟩
  have F : Fr _ _ hv14 := F.trans PP.fr.nil
  have fshv14 := F.size
  have Y : Sy _ _ hv14 [_, _, _, _, _, _, _, _, _, _] := Y.callV PP ⟨rfl, trivial⟩
  clear PP
  obtain rfl := Y.lenR 9 rfl
  refine ⟨_, _, _, rb6, rfl, ?_⟩
  refine ⟨F, ?_⟩
  obtain ⟨Jv, T0, T1⟩ := T
  obtain ⟨B, hB, _⟩ := Y.cut [] [0, 1, 2, 3, 4, 5, 6, 7, 8, 9] rfl
  intro K
  have hK : ∀ (p : Nat) (c : Int) (cA : Option Addr) (cL cC : Nat) (k : Int) (hv26 : Heap), (∃ (c_2 : List (Int × Int)), Sy h [] hv26 ([Ck.sl eP 35 cA cL cC c_2, Ck.junk p] ++ B) ∧ Jv c c_2 k) → K p c cA cL cC k hv26 := by
    subst hB
    clear T0 Y
    rintro p c cA cL cC k hv26 ⟨c_2, Y, T⟩
    obtain rfl := Y.lenS 0 rfl
    replace T := T1 c c_2 k T
    have Y : Sy _ _ _ [_, _, _, _, _, _, _, _, _, _, _, _] := Y
    unfold K
    refine cnd_imp T (fun T => ?_) (fun T => ?_)
    · refine cnd_imp T (fun T => ?_) (fun T => ?_)
      · refine cnd_imp T (fun T => ?_) (fun T => ?_)
        · refine cnd_imp T (fun T => ?_) (fun T => ?_)
          · refine cnd_imp T (fun T => ?_) (fun T => ?_)
            · refine cnd_imp T (fun T => ?_) (fun T => ?_)
              · refine cnd_imp T (fun T => ?_) (fun T => ?_)
                · refine cnd_imp T (fun T => ?_) (fun T => ?_)
                  · refine cnd_imp T (fun T => ?_) (fun T => ?_)
                    · exact ⟨_, Y.pick [] rfl, rfl, T⟩
                    · exact ⟨_, Y.pick [] rfl, rfl, T⟩
                  · exact ⟨_, Y.pick [] rfl, rfl, T⟩
                · exact ⟨_, Y.pick [] rfl, rfl, T⟩
              · exact ⟨_, Y.pick [] rfl, rfl, T⟩
            · exact ⟨_, Y.pick [] rfl, rfl, T⟩
          · exact ⟨_, Y.pick [] rfl, rfl, T⟩
        · exact ⟨_, Y.pick [] rfl, rfl, T⟩
      · exact ⟨_, Y.pick [] rfl, rfl, T⟩
    · exact ⟨_, Y.pick [] rfl, rfl, T⟩
  subst hB
  replace T := T0
  clear T0 T1
  have Y0 := Y
  obtain ⟨Mx, hMx⟩ := Y.mt [] []
  refine ⟨Mx, ?_⟩
  subst hMx
  refine ⟨(allc (Y0.nMJ 3 [] [] rfl rfl) (allc (Y0.nMJ 1 [] [] rfl rfl) alln)), ?_⟩
  have F : Fr _ hv14 hv14 := Y0.frM [] []
  refine ⟨?_, ?_⟩
  · refine callX_sy (T _ (Hp.nil _)) (fun _ _ ⟨_, _, _, _, p, _⟩ => p.fr) (allc (fun h => by cases h) (allc (fun h => by cases h) alln)) ?_
    rintro v11 hv15 ⟨rA5, rL5, rC5, r_5, PP, rfl, T⟩
    have F : Fr _ _ hv15 := F.trans PP.fr.nil
    have fshv15 := F.size
    have Y : Sy _ _ hv15 [_, _, _, _, _, _, _, _, _, _, _] := Y.callV PP ⟨rfl, trivial⟩
    clear PP
    obtain rfl := Y.lenS 10 rfl
    refine ⟨_, _, _, rfl, ?_⟩
    refine ⟨F, ?_⟩
    refine ⟨?_, ?_⟩
    · refine callX_sy (T _ _ _ _ _ _ _ (((Y.turn 0 rfl To.slvw).turn 10 rfl To.slvw).pick [0, 10] rfl).hp) (fun _ _ ⟨_, _, _, _, _, _, p, _⟩ => p.fr) (allc (fun h => by cases h) (allc (fun h => by cases h) alln)) ?_
      rintro v12 hv16 ⟨ra5, raA5, raL5, raC5, ra_6, rb7, PP, rfl, T⟩
      have F : Fr _ _ hv16 := F.trans PP.fr.nil
      have fshv16 := F.size
      have Y : Sy _ _ hv16 [_, _, _, _, _, _, _, _, _, _, _, _] := Y.callV PP ⟨rfl, trivial⟩
      clear PP
      obtain rfl := Y.lenS 11 rfl
      refine ⟨ra5, _, _, _, rb7, rfl, ?_⟩
      refine ⟨F, ?_⟩
      intro hv17
      have Y : Sy _ _ hv17 [_, _, _, _, _, _, _, _, _, _, _, _, _] := Y.junk _
      have F : Fr _ _ hv17 := F.pushr _
      have fshv17 := F.size
      clear_value hv17
      refine ⟨F, ?_⟩
      intro hv18
      have Y : Sy _ _ hv18 [_, _, _, _, _, _, _, _, _, _, _, _, _] := ((Y.stJ 12 rfl _ _).stJ 12 rfl _ _)
      have F : Fr _ _ hv18 := ((F.hsetr (.inl fshv16)).hsetr (.inl fshv16))
      clear_value hv18
      refine ⟨F, ?_⟩
      exact hK _ _ _ _ _ _ _ ⟨_, Y.pick [11, 12, 0, 1, 2, 3, 4, 5, 6, 7, 8, 9] rfl, T⟩
    · intro hv19
      have Y : Sy _ _ hv19 [_, _, _, _, _, _, _, _, _, _, _, _] := Y.junk _
      have F : Fr _ _ hv19 := F.pushr _
      have fshv19 := F.size
      clear_value hv19
      refine ⟨F, ?_⟩
      refine callX_sy (T _ _ _ _ _ _ _ (((Y.turn 0 rfl To.slvw).turn 10 rfl To.slvw).pick [0, 10] rfl).hp) (fun _ _ ⟨_, _, _, _, _, _, p, _⟩ => p.fr) (allc (fun h => by cases h) (allc (fun h => by cases h) (allc (fun h => by cases h) alln))) ?_
      rintro v13 hv20 ⟨ra6, raA6, raL6, raC6, ra_7, rb8, PP, rfl, T⟩
      have F : Fr _ _ hv20 := F.trans PP.fr.nil
      have fshv20 := F.size
      have Y : Sy _ _ hv20 [_, _, _, _, _, _, _, _, _, _, _, _, _] := Y.callV PP ⟨rfl, trivial⟩
      clear PP
      obtain rfl := Y.lenS 12 rfl
      refine ⟨ra6, _, _, _, rb8, rfl, ?_⟩
      refine ⟨F, ?_⟩
      intro hv21
      have Y : Sy _ _ hv21 [_, _, _, _, _, _, _, _, _, _, _, _, _] := ((Y.stJ 11 rfl _ _).stJ 11 rfl _ _)
      have F : Fr _ _ hv21 := ((F.hsetr (.inl fshv15)).hsetr (.inl fshv15))
      clear_value hv21
      refine ⟨F, ?_⟩
      exact hK _ _ _ _ _ _ _ ⟨_, Y.pick [12, 11, 0, 1, 2, 3, 4, 5, 6, 7, 8, 9] rfl, T⟩
  · intro hv22
    have Y : Sy _ _ hv22 [_, _, _, _, _, _, _, _, _, _, _] := Y.junk _
    have F : Fr _ _ hv22 := F.pushr _
    have fshv22 := F.size
    clear_value hv22
    refine ⟨F, ?_⟩
    refine callX_sy (T _ (Hp.nil _)) (fun _ _ ⟨_, _, _, _, p, _⟩ => p.fr) (allc (fun h => by cases h) (allc (fun h => by cases h) (allc (fun h => by cases h) alln))) ?_
    rintro v14 hv23 ⟨rA6, rL6, rC6, r_6, PP, rfl, T⟩
    have F : Fr _ _ hv23 := F.trans PP.fr.nil
    have fshv23 := F.size
    have Y : Sy _ _ hv23 [_, _, _, _, _, _, _, _, _, _, _, _] := Y.callV PP ⟨rfl, trivial⟩
    clear PP
    obtain rfl := Y.lenS 11 rfl
    refine ⟨_, _, _, rfl, ?_⟩
    refine ⟨F, ?_⟩
    refine callX_sy (T _ _ _ _ _ _ _ (((Y.turn 0 rfl To.slvw).turn 11 rfl To.slvw).pick [0, 11] rfl).hp) (fun _ _ ⟨_, _, _, _, _, _, p, _⟩ => p.fr) (allc (fun h => by cases h) (allc (fun h => by cases h) (allc (fun h => by cases h) alln))) ?_
    rintro v15 hv24 ⟨ra7, raA7, raL7, raC7, ra_8, rb9, PP, rfl, T⟩
    have F : Fr _ _ hv24 := F.trans PP.fr.nil
    have fshv24 := F.size
    have Y : Sy _ _ hv24 [_, _, _, _, _, _, _, _, _, _, _, _, _] := Y.callV PP ⟨rfl, trivial⟩
    clear PP
    obtain rfl := Y.lenS 12 rfl
    refine ⟨ra7, _, _, _, rb9, rfl, ?_⟩
    refine ⟨F, ?_⟩
    intro hv25
    have Y : Sy _ _ hv25 [_, _, _, _, _, _, _, _, _, _, _, _, _] := ((Y.stJ 10 rfl _ _).stJ 10 rfl _ _)
    have F : Fr _ _ hv25 := ((F.hsetr (.inl (Nat.le_refl _))).hsetr (.inl (Nat.le_refl _)))
    clear_value hv25
    refine ⟨F, ?_⟩
    exact hK _ _ _ _ _ _ _ ⟨_, Y.pick [12, 10, 0, 1, 2, 3, 4, 5, 6, 7, 8, 9] rfl, T⟩
/-- tracery/tracerylaw3.Light -/
def S59 (g : Int) (gA : Option Addr) (gL gC : Nat) (h : Heap) (R : Value → Heap → Prop) : Prop :=
  let hv : Heap := h.push (.cells #[.int .i64 g, .slice gA gL gC] 26)
  cnd (decide (((gL : Nat) : Int) ≤ (300 : Int)))
    (cnd (decide (g ≤ (300 : Int)))
      (R (.bool true) hv)
      (callX Try.prog 43 #[.agg #[.int .i64 g, .slice gA gL gC]] hv [h.size] fun v hv2 =>
      ∃ r : Bool, v = .bool r ∧
      R (.bool (!r)) hv2))
    (R (.bool false) hv)
theorem calls59 {h : Heap} {R : Value → Heap → Prop} (g : Int) (gA : Option Addr) (gL gC : Nat) (H : S59 g gA gL gC h R) : CallsH Try.prog 59 #[.agg #[.int .i64 g, .slice gA gL gC]] h R := by
  have e : S59 g gA gL gC h R = FX (envX [1] 17) { loops := [], joins := [], blocks := [], draws := [] } Try.f59 (Try.f59.body.getD .skip) [.agg #[.int .i64 g, .slice gA gL gC]] h R := by kernel_rfl
  exact calls_of_FX (envX_ok _ _) Try.func59 (by kernel_rfl) (by kernel_rfl) (by kernel_rfl) (e ▸ H)
/-- tracery/tracerylaw3.Light -/
def Ok59 (g : Int) (edgesV : List (Int × Int)) (R : Bool → Prop) : Prop :=
  ∀ (h : Heap) (gA : Option Addr) (gL gC : Nat), Hp h [Ck.vw eP gA gL gC edgesV] → CallsH Try.prog 59 #[.agg #[.int .i64 g, .slice gA gL gC]] h fun v h' => ∃ (rV : Bool), Sy h [] h' [] ∧ v = .bool rV ∧ R rV
theorem Ok59.mono {g edgesV} {R R' : Bool → Prop} (H : Ok59 g edgesV R) (kz : ∀ rV, R rV → R' rV) : Ok59 g edgesV R' :=
  fun h gA gL gC hp => (H h gA gL gC hp).mono fun _ _ ⟨rV, P, e, q⟩ => ⟨rV, P, e, kz _ q⟩
def T59 (g : Int) (edgesV : List (Int × Int)) (R : Bool → Prop) : Prop :=
  cnd (decide (((edgesV.length : Nat) : Int) ≤ (300 : Int)))
    (cnd (decide (g ≤ (300 : Int)))
      (R true)
      (Ok43 g edgesV (fun r =>
      R (!r))))
    (R false)
theorem ok59 {g edgesV} {R : Bool → Prop} (T : T59 g edgesV R) : Ok59 g edgesV R := by
  intro h gA gL gC H
  have Y : Sy h [] h _ := Sy.startM H rfl
  obtain rfl := Y.lenV 0 rfl
  apply calls59
  unfold S59
  unfold T59 at T
  intro hv
  have Y : Sy _ _ hv [_, _] := Y.junk _
  clear_value hv
  refine cnd_imp T (fun T => ?_) (fun T => ?_)
  · refine cnd_imp T (fun T => ?_) (fun T => ?_)
    · exact ⟨_, Y.pick [] rfl, rfl, T⟩
    · refine callX_sy (T _ _ _ _ (Y.pick [0] rfl).hp) (fun _ _ ⟨_, p, _⟩ => p.fr) (allc (fun h => by cases h) alln) ?_
      rintro v hv2 ⟨r, PP, rfl, T⟩
      have Y : Sy _ _ hv2 [_, _] := Y.gr PP.fr
      clear PP
      refine ⟨r, rfl, ?_⟩
      exact ⟨_, Y.pick [] rfl, rfl, T⟩
  · exact ⟨_, Y.pick [] rfl, rfl, T⟩
end Go.Proofs.Ytmcloipjlihhlaa.N
