/- Functions: what is left to be shown of each, over memory and without: printed by program, tied to the loaded functions by the kernel. Conditions: none. -/
import Derived.Test.YtfjflbapojgbhaaGreatDoorWEnv
import Derived.Test.YtfjflbapojgbhaaGreatDoorYTwo
import Derived.Test.YtfjflbapojgbhaaGreatDoorYGl
import Derived.Test.YtfjflbapojgbhaaGreatDoorTTop
namespace Go.Proofs.YtfjflbapojgbhaaGreatDoor.N
open Go.Proofs.YtfjflbapojgbhaaGreatDoor
open Go.X
set_option maxRecDepth 100000
set_option linter.unusedVariables false
set_option linter.unusedSimpArgs false
set_option maxHeartbeats 2000000

/-- tracery/tracerylaw1.WeighWhole -/
def S4 (n : Int) (zeros : Int) (ev : Int) (neg : Bool) (h : Heap) (R : Value → Heap → Prop) : Prop :=
  callX Tryz.prog 9 #[] h [] fun v hv =>
  ∃ r : Bool, v = .bool r ∧
  cnd (!r)
    (R (.bool false) hv)
    (cnd (decide (zeros > (12 : Int)))
      (R (.bool true) hv)
      (cnd (decide (ev > (9 : Int)))
        (R (.bool true) hv)
        (∃ (Iv : List Value → Heap → Prop) (m : List Value → Heap → Nat), Iv [.string (⟨#[]⟩ : ByteArray), .int .u32 n] hv ∧ -- loop 0: ['d', 'k']
        ∀ d : ByteArray, ∀ k : Int, ∀ hv2, Iv [.string d, .int .u32 k] hv2 →
        let K := fun (hv3 : Heap) =>
          ((10 : Int) ≠ 0 ∧ let hv4 : Heap := hv3.push (.cells #[.int .u8 (IntKind.u8.wrap (IntKind.u32.wrap ((48 : Int) + (Int.tmod k (10 : Int)))))] 5)
          ∃ xs : List Int, Reads hv4 1 (some (⟨hv3.size, 0, none⟩ : Addr)) 1 (List.map (Value.int IntKind.u8) xs) ∧ ((((strOf xs).size + d.size : Nat)) : Int) ≤ 9223372036854775807 ∧ (10 : Int) ≠ 0 ∧ Iv [.string ((strOf xs) ++ d), .int .u32 (IntKind.u32.wrap (Int.tdiv k (10 : Int)))] hv4 ∧ m [.string ((strOf xs) ++ d), .int .u32 (IntKind.u32.wrap (Int.tdiv k (10 : Int)))] hv4 < m [.string d, .int .u32 k] hv2)
        cnd (decide (k > (0 : Int)))
          (K hv2)
          (cnd (d.toList == (⟨#[]⟩ : ByteArray).toList)
            (K hv2)
            (∃ Jv : List Value → Heap → Prop, -- join 45 ['x', 's']
            ( cnd neg
               (Jv [.float .f64 (Op.negFloat .f64 ((FloatKind.f64).nearest n)), .string (⟨#[45]⟩ : ByteArray)] hv2)
               (Jv [.float .f64 ((FloatKind.f64).nearest n), .string (⟨#[]⟩ : ByteArray)] hv2)) ∧
            ∀ x : Nat, ∀ s : ByteArray, ∀ hv5, Jv [.float .f64 x, .string s] hv5 →
            ∃ (Iv2 : List Value → Heap → Prop) (m2 : List Value → Heap → Nat), Iv2 [.string (⟨#[]⟩ : ByteArray), .int .u8 0] hv5 ∧ -- loop 2: ['z', 'i']
            ∀ z : ByteArray, ∀ i : Int, ∀ hv6, Iv2 [.string z, .int .u8 i] hv6 →
            cnd (decide (i < zeros))
              ((((z.size + (⟨#[48]⟩ : ByteArray).size : Nat)) : Int) ≤ 9223372036854775807 ∧ Iv2 [.string (z ++ (⟨#[48]⟩ : ByteArray)), .int .u8 (IntKind.u8.wrap (i + (1 : Int)))] hv6 ∧ m2 [.string (z ++ (⟨#[48]⟩ : ByteArray)), .int .u8 (IntKind.u8.wrap (i + (1 : Int)))] hv6 < m2 [.string z, .int .u8 i] hv6)
              (∃ (Iv3 : List Value → Heap → Prop) (m3 : List Value → Heap → Nat), Iv3 [.string d, .int .u8 0] hv6 ∧ -- loop 4: ['d', 'i']
              ∀ d2 : ByteArray, ∀ i2 : Int, ∀ hv7, Iv3 [.string d2, .int .u8 i2] hv7 →
              cnd (decide (i2 < ev))
                ((((d2.size + (⟨#[48]⟩ : ByteArray).size : Nat)) : Int) ≤ 9223372036854775807 ∧ Iv3 [.string (d2 ++ (⟨#[48]⟩ : ByteArray)), .int .u8 (IntKind.u8.wrap (i2 + (1 : Int)))] hv7 ∧ m3 [.string (d2 ++ (⟨#[48]⟩ : ByteArray)), .int .u8 (IntKind.u8.wrap (i2 + (1 : Int)))] hv7 < m3 [.string d2, .int .u8 i2] hv7)
                ((((s.size + z.size : Nat)) : Int) ≤ 9223372036854775807 ∧ ((((s ++ z).size + d2.size : Nat)) : Int) ≤ 9223372036854775807 ∧ (((((s ++ z) ++ d2).size + (⟨#[46, 48]⟩ : ByteArray).size : Nat)) : Int) ≤ 9223372036854775807 ∧ ((((((s ++ z) ++ d2) ++ (⟨#[46, 48]⟩ : ByteArray)).size + z.size : Nat)) : Int) ≤ 9223372036854775807 ∧ (((((((s ++ z) ++ d2) ++ (⟨#[46, 48]⟩ : ByteArray)) ++ z).size + (⟨#[101, 45]⟩ : ByteArray).size : Nat)) : Int) ≤ 9223372036854775807 ∧ let hv8 : Heap := hv7.push (.cells #[.int .u8 (IntKind.u8.wrap ((48 : Int) + ev))] 5)
                ∃ xs2 : List Int, Reads hv8 1 (some (⟨hv7.size, 0, none⟩ : Addr)) 1 (List.map (Value.int IntKind.u8) xs2) ∧ ((((((((s ++ z) ++ d2) ++ (⟨#[46, 48]⟩ : ByteArray)) ++ z) ++ (⟨#[101, 45]⟩ : ByteArray)).size + (strOf xs2).size : Nat)) : Int) ≤ 9223372036854775807 ∧ callX Tryz.prog 10 #[.string ((((((s ++ z) ++ d2) ++ (⟨#[46, 48]⟩ : ByteArray)) ++ z) ++ (⟨#[101, 45]⟩ : ByteArray)) ++ (strOf xs2))] hv8 [] fun v2 hv9 =>
                ∃ ra : Nat, ∃ rb : Int, v2 = .tuple #[.float .f64 ra, .int .i64 rb] ∧
                let K2 := fun (hv11 : Heap) =>
                  (R (.bool false) hv11)
                cnd (rb == (0 : Int))
                  (callX Tryz.prog 12 #[.float .f64 ra, .float .f64 x] hv9 [] fun v3 hv10 =>
                  ∃ r2 : Bool, v3 = .bool r2 ∧
                  cnd r2
                    (R (.bool true) hv10)
                    (cnd (n == (0 : Int))
                      (R (.bool ((FloatKind.f64).format.order ra 0 == some .eq)) hv10)
                      (K2 hv10)))
                  (K2 hv9))))))))
theorem calls4 {h : Heap} {R : Value → Heap → Prop} (n : Int) (zeros : Int) (ev : Int) (neg : Bool) (H : S4 n zeros ev neg h R) : CallsH Tryz.prog 4 #[.int .u32 n, .int .u8 zeros, .int .u8 ev, .bool neg] h R := by
  have e : S4 n zeros ev neg h R = FX (envX [] 95) { loops := [(0, ⟨[0, 1, 2, 3], [9, 10], [], []⟩), (2, ⟨[0, 1, 2, 9, 11, 12], [13, 14], [], []⟩), (4, ⟨[0, 2, 11, 12, 13], [9, 15], [], []⟩)], joins := [(45, ⟨[0, 1, 2, 9, 13], [11, 12], [], []⟩)], blocks := [], draws := [] } Tryz.f4 (Tryz.f4.body.getD .skip) [.int .u32 n, .int .u8 zeros, .int .u8 ev, .bool neg] h R := by kernel_rfl
  exact calls_of_FX (envX_ok _ _) Tryz.func4 (by kernel_rfl) (by kernel_rfl) (by kernel_rfl) (e ▸ H)
/-- tracery/tracerylaw1.WeighWhole -/
def Ok4 (n : Int) (zeros : Int) (ev : Int) (neg : Bool) (R : Bool → Prop) : Prop :=
  ∀ (h : Heap) (gl : GL), Hp h [Ck.glob gl] → CallsH Tryz.prog 4 #[.int .u32 n, .int .u8 zeros, .int .u8 ev, .bool neg] h fun v h' => ∃ (rV : Bool), Sy h [] h' [] ∧ v = .bool rV ∧ R rV
theorem Ok4.mono {n zeros ev neg} {R R' : Bool → Prop} (H : Ok4 n zeros ev neg R) (kz : ∀ rV, R rV → R' rV) : Ok4 n zeros ev neg R' :=
  fun h gl hp => (H h gl hp).mono fun _ _ ⟨rV, P, e, q⟩ => ⟨rV, P, e, kz _ q⟩
def T4 (n : Int) (zeros : Int) (ev : Int) (neg : Bool) (R : Bool → Prop) : Prop :=
  Ok9 (fun r =>
  cnd (!r)
    (R false)
    (cnd (decide (zeros > (12 : Int)))
      (R true)
      (cnd (decide (ev > (9 : Int)))
        (R true)
        (∃ (Iv : ByteArray → Int → Prop) (m : ByteArray → Int → Nat), Iv (⟨#[]⟩ : ByteArray) n ∧
        ∀ d : ByteArray, ∀ k : Int, Iv d k →
        ∃ Jv_2 : Prop,
        ( cnd (decide (k > (0 : Int)))
           (Jv_2)
           (cnd (d.toList == (⟨#[]⟩ : ByteArray).toList)
             (Jv_2)
             (∃ Jv : Nat → ByteArray → Prop,
             ( cnd neg
                (Jv (Op.negFloat .f64 ((FloatKind.f64).nearest n)) (⟨#[45]⟩ : ByteArray))
                (Jv ((FloatKind.f64).nearest n) (⟨#[]⟩ : ByteArray))) ∧
             ∀ x : Nat, ∀ s : ByteArray, Jv x s →
             ∃ (Iv2 : ByteArray → Int → Prop) (m2 : ByteArray → Int → Nat), Iv2 (⟨#[]⟩ : ByteArray) 0 ∧
             ∀ z : ByteArray, ∀ i : Int, Iv2 z i →
             cnd (decide (i < zeros))
               ((((z.size + (⟨#[48]⟩ : ByteArray).size : Nat)) : Int) ≤ 9223372036854775807 ∧ Iv2 (z ++ (⟨#[48]⟩ : ByteArray)) (IntKind.u8.wrap (i + (1 : Int))) ∧ m2 (z ++ (⟨#[48]⟩ : ByteArray)) (IntKind.u8.wrap (i + (1 : Int))) < m2 z i)
               (∃ (Iv3 : ByteArray → Int → Prop) (m3 : ByteArray → Int → Nat), Iv3 d 0 ∧
               ∀ d2 : ByteArray, ∀ i2 : Int, Iv3 d2 i2 →
               cnd (decide (i2 < ev))
                 ((((d2.size + (⟨#[48]⟩ : ByteArray).size : Nat)) : Int) ≤ 9223372036854775807 ∧ Iv3 (d2 ++ (⟨#[48]⟩ : ByteArray)) (IntKind.u8.wrap (i2 + (1 : Int))) ∧ m3 (d2 ++ (⟨#[48]⟩ : ByteArray)) (IntKind.u8.wrap (i2 + (1 : Int))) < m3 d2 i2)
                 ((((s.size + z.size : Nat)) : Int) ≤ 9223372036854775807 ∧ ((((s ++ z).size + d2.size : Nat)) : Int) ≤ 9223372036854775807 ∧ (((((s ++ z) ++ d2).size + (⟨#[46, 48]⟩ : ByteArray).size : Nat)) : Int) ≤ 9223372036854775807 ∧ ((((((s ++ z) ++ d2) ++ (⟨#[46, 48]⟩ : ByteArray)).size + z.size : Nat)) : Int) ≤ 9223372036854775807 ∧ (((((((s ++ z) ++ d2) ++ (⟨#[46, 48]⟩ : ByteArray)) ++ z).size + (⟨#[101, 45]⟩ : ByteArray).size : Nat)) : Int) ≤ 9223372036854775807 ∧ ((((((((s ++ z) ++ d2) ++ (⟨#[46, 48]⟩ : ByteArray)) ++ z) ++ (⟨#[101, 45]⟩ : ByteArray)).size + (strOf ([(IntKind.u8.wrap ((48 : Int) + ev))] : List Int)).size : Nat)) : Int) ≤ 9223372036854775807 ∧ Ok10 ((((((s ++ z) ++ d2) ++ (⟨#[46, 48]⟩ : ByteArray)) ++ z) ++ (⟨#[101, 45]⟩ : ByteArray)) ++ (strOf ([(IntKind.u8.wrap ((48 : Int) + ev))] : List Int))) (fun ra rb =>
                 ∃ Jv_3 : Prop,
                 ( cnd (rb == (0 : Int))
                    (Ok12 ra x (fun r2 =>
                    cnd r2
                      (R true)
                      (cnd (n == (0 : Int))
                        (R ((FloatKind.f64).format.order ra 0 == some .eq))
                        (Jv_3))))
                    (Jv_3)) ∧
                 (Jv_3 →
                 R false))))))) ∧
        (Jv_2 →
        (10 : Int) ≠ 0 ∧ ((((strOf ([(IntKind.u8.wrap (IntKind.u32.wrap ((48 : Int) + (Int.tmod k (10 : Int)))))] : List Int)).size + d.size : Nat)) : Int) ≤ 9223372036854775807 ∧ (10 : Int) ≠ 0 ∧ Iv ((strOf ([(IntKind.u8.wrap (IntKind.u32.wrap ((48 : Int) + (Int.tmod k (10 : Int)))))] : List Int)) ++ d) (IntKind.u32.wrap (Int.tdiv k (10 : Int))) ∧ m ((strOf ([(IntKind.u8.wrap (IntKind.u32.wrap ((48 : Int) + (Int.tmod k (10 : Int)))))] : List Int)) ++ d) (IntKind.u32.wrap (Int.tdiv k (10 : Int))) < m d k)))))
theorem ok4 {n zeros ev neg} {R : Bool → Prop} (T : T4 n zeros ev neg R) : Ok4 n zeros ev neg R := by
  intro h gl H
  have Y : Sy h [] h _ := Sy.startM H rfl
  apply calls4
  unfold S4
  unfold T4 at T
  refine callX_sy (T _ _ (Y.pick [0] rfl).hp) (fun _ _ ⟨_, p, _⟩ => p.fr) alln ?_
  rintro v hv ⟨r, PP, rfl, T⟩
  have Y : Sy _ _ hv [_] := Y.gr PP.fr
  clear PP
  refine ⟨r, rfl, ?_⟩
  refine cnd_imp T (fun T => ?_) (fun T => ?_)
  · exact ⟨_, Y.pick [] rfl, rfl, T⟩
  · refine cnd_imp T (fun T => ?_) (fun T => ?_)
    · exact ⟨_, Y.pick [] rfl, rfl, T⟩
    · refine cnd_imp T (fun T => ?_) (fun T => ?_)
      · exact ⟨_, Y.pick [] rfl, rfl, T⟩
      · obtain ⟨Iv, m, T0, T1⟩ := T
        obtain ⟨B, hB, YB⟩ := Y.cut [] [0] rfl
        obtain ⟨JJ, hJJ⟩ : ∃ JJ : Nat → List Value → Heap → Prop, JJ = (fun k_2 lz h' => ∃ (d : ByteArray) (k : Int), lz = [.string d, .int .u32 k] ∧ Sy h [] h' ([] ++ B) ∧ Iv d k ∧ m d k = k_2) := ⟨_, rfl⟩
        refine ⟨fun lz h' => ∃ k_2, JJ k_2 lz h', Lm JJ, ?_, ?_⟩
        · subst hJJ hB
          exact ⟨_, _, _, rfl, YB, T0, rfl⟩
        · clear YB T0 Y
          intro d k hv2 hI
          obtain ⟨k_2, hI, hm⟩ := loopIn hI
          subst hJJ hB
          obtain ⟨d, k, e, Y, T, rfl⟩ := hI
          cases e
          replace T := T1 d k T
          have Y : Sy _ _ _ [_] := Y
          obtain ⟨Jv_2, T0, T1⟩ := T
          obtain ⟨B_2, hB_2, _⟩ := Y.cut [] [0] rfl
          intro K
          have hK : ∀  (hv3 : Heap), (Sy h [] hv3 ([] ++ B_2) ∧ Jv_2) → K hv3 := by
            subst hB_2
            clear T0 Y
            rintro hv3 ⟨Y, T⟩
            replace T := T1 T
            have Y : Sy _ _ _ [_] := Y
            unfold K
            obtain ⟨q_3, T⟩ := T
            refine ⟨q_3, ?_⟩
            intro hv4
            have Y : Sy _ _ hv4 [_, _] := Y.litS (E := (eK .u8)) (ty := 5) ([(IntKind.u8.wrap (IntKind.u32.wrap ((48 : Int) + (Int.tmod k (10 : Int)))))] : List Int) rfl (by simp [maxLen])
            clear_value hv4
            refine ⟨_, reads8 (Y.readsS 1 rfl), ?_⟩
            obtain ⟨q_2, T⟩ := T
            refine ⟨q_2, ?_⟩
            obtain ⟨q, T⟩ := T
            refine ⟨q, ?_⟩
            exact loopBack hm ⟨_, _, rfl, Y.pick [0] rfl, T.1, rfl⟩ T.2
          subst hB_2
          replace T := T0
          clear T0 T1
          refine cnd_imp T (fun T => ?_) (fun T => ?_)
          · exact hK _ ⟨Y.pick [0] rfl, T⟩
          · refine cnd_imp T (fun T => ?_) (fun T => ?_)
            · exact hK _ ⟨Y.pick [0] rfl, T⟩
            · obtain ⟨Jv, T0, T1⟩ := T
              obtain ⟨B_3, hB_3, _⟩ := Y.cut [] [0] rfl
              refine ⟨fun lz h' => ∃ (x : Nat) (s : ByteArray), lz = [.float .f64 x, .string s] ∧ Sy h [] h' ([] ++ B_3) ∧ Jv x s, ?_, ?_⟩
              · subst hB_3
                replace T := T0
                clear T0 T1
                refine cnd_imp T (fun T => ?_) (fun T => ?_)
                · exact ⟨_, _, rfl, Y.pick [0] rfl, T⟩
                · exact ⟨_, _, rfl, Y.pick [0] rfl, T⟩
              · subst hB_3
                clear T0 Y
                rintro x s hv5 ⟨x, s, e, Y, T⟩
                cases e
                replace T := T1 x s T
                have Y : Sy _ _ _ [_] := Y
                obtain ⟨Iv2, m2, T0, T1⟩ := T
                obtain ⟨B_4, hB_4, YB⟩ := Y.cut [] [0] rfl
                obtain ⟨JJ_2, hJJ_2⟩ : ∃ JJ_2 : Nat → List Value → Heap → Prop, JJ_2 = (fun k_3 lz h' => ∃ (z : ByteArray) (i : Int), lz = [.string z, .int .u8 i] ∧ Sy h [] h' ([] ++ B_4) ∧ Iv2 z i ∧ m2 z i = k_3) := ⟨_, rfl⟩
                refine ⟨fun lz h' => ∃ k_3, JJ_2 k_3 lz h', Lm JJ_2, ?_, ?_⟩
                · subst hJJ_2 hB_4
                  exact ⟨_, _, _, rfl, YB, T0, rfl⟩
                · clear YB T0 Y
                  intro z i hv6 hI
                  obtain ⟨k_3, hI, hm_2⟩ := loopIn hI
                  subst hJJ_2 hB_4
                  obtain ⟨z, i, e, Y, T, rfl⟩ := hI
                  cases e
                  replace T := T1 z i T
                  have Y : Sy _ _ _ [_] := Y
                  refine cnd_imp T (fun T => ?_) (fun T => ?_)
                  · obtain ⟨q_4, T⟩ := T
                    refine ⟨q_4, ?_⟩
                    exact loopBack hm_2 ⟨_, _, rfl, Y.pick [0] rfl, T.1, rfl⟩ T.2
                  · obtain ⟨Iv3, m3, T0, T1⟩ := T
                    obtain ⟨B_5, hB_5, YB⟩ := Y.cut [] [0] rfl
                    obtain ⟨JJ_3, hJJ_3⟩ : ∃ JJ_3 : Nat → List Value → Heap → Prop, JJ_3 = (fun k_4 lz h' => ∃ (d2 : ByteArray) (i2 : Int), lz = [.string d2, .int .u8 i2] ∧ Sy h [] h' ([] ++ B_5) ∧ Iv3 d2 i2 ∧ m3 d2 i2 = k_4) := ⟨_, rfl⟩
                    refine ⟨fun lz h' => ∃ k_4, JJ_3 k_4 lz h', Lm JJ_3, ?_, ?_⟩
                    · subst hJJ_3 hB_5
                      exact ⟨_, _, _, rfl, YB, T0, rfl⟩
                    · clear YB T0 Y
                      intro d2 i2 hv7 hI
                      obtain ⟨k_4, hI, hm_3⟩ := loopIn hI
                      subst hJJ_3 hB_5
                      obtain ⟨d2, i2, e, Y, T, rfl⟩ := hI
                      cases e
                      replace T := T1 d2 i2 T
                      have Y : Sy _ _ _ [_] := Y
                      refine cnd_imp T (fun T => ?_) (fun T => ?_)
                      · obtain ⟨q_5, T⟩ := T
                        refine ⟨q_5, ?_⟩
                        exact loopBack hm_3 ⟨_, _, rfl, Y.pick [0] rfl, T.1, rfl⟩ T.2
                      · obtain ⟨q_11, T⟩ := T
                        refine ⟨q_11, ?_⟩
                        obtain ⟨q_10, T⟩ := T
                        refine ⟨q_10, ?_⟩
                        obtain ⟨q_9, T⟩ := T
                        refine ⟨q_9, ?_⟩
                        obtain ⟨q_8, T⟩ := T
                        refine ⟨q_8, ?_⟩
                        obtain ⟨q_7, T⟩ := T
                        refine ⟨q_7, ?_⟩
                        intro hv8
                        have Y : Sy _ _ hv8 [_, _] := Y.litS (E := (eK .u8)) (ty := 5) ([(IntKind.u8.wrap ((48 : Int) + ev))] : List Int) rfl (by simp [maxLen])
                        clear_value hv8
                        refine ⟨_, reads8 (Y.readsS 1 rfl), ?_⟩
                        obtain ⟨q_6, T⟩ := T
                        refine ⟨q_6, ?_⟩
                        refine callX_sy (T _ _ (Y.pick [0] rfl).hp) (fun _ _ ⟨_, _, p, _⟩ => p.fr) alln ?_
                        rintro v2 hv9 ⟨ra, rb, PP, rfl, T⟩
                        have Y : Sy _ _ hv9 [_, _] := Y.gr PP.fr
                        clear PP
                        refine ⟨ra, rb, rfl, ?_⟩
                        obtain ⟨Jv_3, T0, T1⟩ := T
                        obtain ⟨B_6, hB_6, _⟩ := Y.cut [] [0, 1] rfl
                        intro K2
                        have hK2 : ∀  (hv11 : Heap), (Sy h [] hv11 ([] ++ B_6) ∧ Jv_3) → K2 hv11 := by
                          subst hB_6
                          clear T0 Y
                          rintro hv11 ⟨Y, T⟩
                          replace T := T1 T
                          have Y : Sy _ _ _ [_, _] := Y
                          unfold K2
                          exact ⟨_, Y.pick [] rfl, rfl, T⟩
                        subst hB_6
                        replace T := T0
                        clear T0 T1
                        refine cnd_imp T (fun T => ?_) (fun T => ?_)
                        · refine callX_sy (T _ (Hp.nil _)) (fun _ _ ⟨_, p, _⟩ => p.fr) alln ?_
                          rintro v3 hv10 ⟨r2, PP, rfl, T⟩
                          have Y : Sy _ _ hv10 [_, _] := Y.gr PP.fr
                          clear PP
                          refine ⟨r2, rfl, ?_⟩
                          refine cnd_imp T (fun T => ?_) (fun T => ?_)
                          · exact ⟨_, Y.pick [] rfl, rfl, T⟩
                          · refine cnd_imp T (fun T => ?_) (fun T => ?_)
                            · exact ⟨_, Y.pick [] rfl, rfl, T⟩
                            · exact hK2 _ ⟨Y.pick [0, 1] rfl, T⟩
                        · exact hK2 _ ⟨Y.pick [0, 1] rfl, T⟩
end Go.Proofs.YtfjflbapojgbhaaGreatDoor.N
