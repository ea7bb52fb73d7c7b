/- readFloat: a text's digits, point, exponent. Conditions: none. -/
import Derived.Test.YtfjflbapojgbhaaGreatDoorWParse
namespace Go.Proofs.YtfjflbapojgbhaaGreatDoor.N
open Go.X Go.Proofs.YtfjflbapojgbhaaGreatDoor
set_option maxRecDepth 100000
set_option maxHeartbeats 1000000

/-- What comes behind the sign and the base (the text of T79 has it twice). -/
def T79b (s : ByteArray) (neg2 : Bool) (i2 : Int) (R : Int → Int → Bool → Bool → Bool → Int → Bool → Prop) : Prop :=
  ∃ Jv17 : Int → Bool → Int → Bool → Bool → Bool → Int → Int → Int → Prop,
  ( ∃ (Iv3 : Int → Bool → Int → Bool → Bool → Bool → Int → Int → Int → Prop) (m3 : Int → Bool → Int → Bool → Bool → Bool → Int → Int → Int → Nat), Iv3 0 false i2 false false false 0 0 0 ∧
   ∀ mantissa6 : Int, ∀ trunc7 : Bool, ∀ i12 : Int, ∀ underscores9 : Bool, ∀ sawdot4 : Bool, ∀ sawdigits4 : Bool, ∀ nd4 : Int, ∀ ndMant7 : Int, ∀ dp8 : Int, Iv3 mantissa6 trunc7 i12 underscores9 sawdot4 sawdigits4 nd4 ndMant7 dp8 →
   cnd (decide (i12 < ((s.size : Nat) : Int)))
     (∃ Jv18 : Int → Bool → Bool → Bool → Bool → Int → Int → Int → Prop,
     ( 0 ≤ i12 ∧ i12 < ((s.size : Nat) : Int) ∧ ∃ xc15 : UInt8, s[Int.toNat i12]? = some xc15 ∧ cnd (true == (((UInt8.toNat xc15 : Nat) : Int) == (95 : Int)))
        (Jv18 mantissa6 trunc7 true sawdot4 sawdigits4 nd4 ndMant7 dp8)
        (cnd (true == (((UInt8.toNat xc15 : Nat) : Int) == (46 : Int)))
          (cnd sawdot4
            (Jv17 mantissa6 trunc7 i12 underscores9 sawdot4 sawdigits4 nd4 ndMant7 dp8)
            (Jv18 mantissa6 trunc7 underscores9 true sawdigits4 nd4 ndMant7 nd4))
          (∃ Jv_3 : Bool → Prop,
          ( cnd (decide ((48 : Int) ≤ ((UInt8.toNat xc15 : Nat) : Int)))
             (Jv_3 (true == (decide (((UInt8.toNat xc15 : Nat) : Int) ≤ (57 : Int)))))
             (Jv_3 (true == false))) ∧
          ∀ x4 : Bool, Jv_3 x4 →
          cnd x4
            (∃ Jv_4 : Prop,
            ( cnd (((UInt8.toNat xc15 : Nat) : Int) == (48 : Int))
               (cnd (nd4 == (0 : Int))
                 (Jv18 mantissa6 trunc7 underscores9 sawdot4 true nd4 ndMant7 (IntKind.i64.wrap (dp8 - (1 : Int))))
                 (Jv_4))
               (Jv_4)) ∧
            (Jv_4 →
            ∃ Jv19 : Int → Bool → Int → Prop,
            ( cnd (decide (ndMant7 < (19 : Int)))
               (Jv19 (IntKind.u64.wrap ((IntKind.u64.wrap (mantissa6 * (10 : Int))) + (IntKind.u64.wrap (IntKind.u8.wrap (((UInt8.toNat xc15 : Nat) : Int) - (48 : Int)))))) trunc7 (IntKind.i64.wrap (ndMant7 + (1 : Int))))
               (∃ Jv20 : Bool → Prop,
               ( cnd (((UInt8.toNat xc15 : Nat) : Int) != (48 : Int))
                  (Jv20 true)
                  (Jv20 trunc7)) ∧
               ∀ trunc8 : Bool, Jv20 trunc8 →
               Jv19 mantissa6 trunc8 ndMant7)) ∧
            ∀ mantissa7 : Int, ∀ trunc9 : Bool, ∀ ndMant8 : Int, Jv19 mantissa7 trunc9 ndMant8 →
            Jv18 mantissa7 trunc9 underscores9 sawdot4 true (IntKind.i64.wrap (nd4 + (1 : Int))) ndMant8 dp8))
            (∃ Jv_5 : Bool → Prop,
            ( cnd ((10 : Int) == (16 : Int))
               (Ok94 ((UInt8.toNat xc15 : Nat) : Int) (fun r7 =>
               cnd (decide ((97 : Int) ≤ r7))
                 (Ok94 ((UInt8.toNat xc15 : Nat) : Int) (fun r8 =>
                 Jv_5 (true == (decide (r8 ≤ (102 : Int))))))
                 (Jv_5 (true == false))))
               (Jv_5 (true == false))) ∧
            ∀ x5 : Bool, Jv_5 x5 →
            cnd x5
              (∃ Jv21 : Int → Bool → Int → Prop,
              ( cnd (decide (ndMant7 < (19 : Int)))
                 (Ok94 ((UInt8.toNat xc15 : Nat) : Int) (fun r9 =>
                 Jv21 (IntKind.u64.wrap ((IntKind.u64.wrap (mantissa6 * (16 : Int))) + (IntKind.u64.wrap (IntKind.u8.wrap ((IntKind.u8.wrap (r9 - (97 : Int))) + (10 : Int)))))) trunc7 (IntKind.i64.wrap (ndMant7 + (1 : Int)))))
                 (Jv21 mantissa6 true ndMant7)) ∧
              ∀ mantissa8 : Int, ∀ trunc10 : Bool, ∀ ndMant9 : Int, Jv21 mantissa8 trunc10 ndMant9 →
              Jv18 mantissa8 trunc10 underscores9 sawdot4 true (IntKind.i64.wrap (nd4 + (1 : Int))) ndMant9 dp8)
              (Jv17 mantissa6 trunc7 i12 underscores9 sawdot4 sawdigits4 nd4 ndMant7 dp8))))) ∧
     ∀ mantissa9 : Int, ∀ trunc11 : Bool, ∀ underscores10 : Bool, ∀ sawdot5 : Bool, ∀ sawdigits5 : Bool, ∀ nd5 : Int, ∀ ndMant10 : Int, ∀ dp9 : Int, Jv18 mantissa9 trunc11 underscores10 sawdot5 sawdigits5 nd5 ndMant10 dp9 →
     Iv3 mantissa9 trunc11 (IntKind.i64.wrap (i12 + (1 : Int))) underscores10 sawdot5 sawdigits5 nd5 ndMant10 dp9 ∧ m3 mantissa9 trunc11 (IntKind.i64.wrap (i12 + (1 : Int))) underscores10 sawdot5 sawdigits5 nd5 ndMant10 dp9 < m3 mantissa6 trunc7 i12 underscores9 sawdot4 sawdigits4 nd4 ndMant7 dp8)
     (Jv17 mantissa6 trunc7 i12 underscores9 sawdot4 sawdigits4 nd4 ndMant7 dp8)) ∧
  ∀ mantissa10 : Int, ∀ trunc12 : Bool, ∀ i13 : Int, ∀ underscores11 : Bool, ∀ sawdot6 : Bool, ∀ sawdigits6 : Bool, ∀ nd6 : Int, ∀ ndMant11 : Int, ∀ dp10 : Int, Jv17 mantissa10 trunc12 i13 underscores11 sawdot6 sawdigits6 nd6 ndMant11 dp10 →
  cnd (!sawdigits6)
    (R mantissa10 0 neg2 trunc12 false i13 false)
    (∃ Jv22 : Int → Prop,
    ( cnd (!sawdot6)
       (Jv22 nd6)
       (Jv22 dp10)) ∧
    ∀ dp11 : Int, Jv22 dp11 →
    ∃ Jv23 : Int → Int → Prop,
    ( cnd ((10 : Int) == (16 : Int))
       (Jv23 (IntKind.i64.wrap (ndMant11 * (4 : Int))) (IntKind.i64.wrap (dp11 * (4 : Int))))
       (Jv23 ndMant11 dp11)) ∧
    ∀ ndMant12 : Int, ∀ dp12 : Int, Jv23 ndMant12 dp12 →
    ∃ Jv_6 : Int → Bool → Int → Prop,
    ( cnd (decide (i13 < ((s.size : Nat) : Int)))
       (0 ≤ i13 ∧ i13 < ((s.size : Nat) : Int) ∧ ∃ xc16 : UInt8, s[Int.toNat i13]? = some xc16 ∧ Ok94 ((UInt8.toNat xc16 : Nat) : Int) (fun r10 =>
       ∃ Jv24 : Int → Bool → Int → Prop,
       ( cnd (r10 == (101 : Int))
          (cnd (decide ((IntKind.i64.wrap (i13 + (1 : Int))) ≥ ((s.size : Nat) : Int)))
            (R mantissa10 0 neg2 trunc12 false (IntKind.i64.wrap (i13 + (1 : Int))) false)
            (0 ≤ (IntKind.i64.wrap (i13 + (1 : Int))) ∧ (IntKind.i64.wrap (i13 + (1 : Int))) < ((s.size : Nat) : Int) ∧ ∃ xc17 : UInt8, s[Int.toNat (IntKind.i64.wrap (i13 + (1 : Int)))]? = some xc17 ∧ ∃ Jv25 : Int → Int → Prop,
            ( cnd (((UInt8.toNat xc17 : Nat) : Int) == (43 : Int))
               (Jv25 (IntKind.i64.wrap ((IntKind.i64.wrap (i13 + (1 : Int))) + (1 : Int))) 1)
               (∃ Jv26 : Int → Int → Prop,
               ( cnd (((UInt8.toNat xc17 : Nat) : Int) == (45 : Int))
                  (Jv26 (IntKind.i64.wrap ((IntKind.i64.wrap (i13 + (1 : Int))) + (1 : Int))) (-1))
                  (Jv26 (IntKind.i64.wrap (i13 + (1 : Int))) 1)) ∧
               ∀ i14 : Int, ∀ esign3 : Int, Jv26 i14 esign3 →
               Jv25 i14 esign3)) ∧
            ∀ i15 : Int, ∀ esign4 : Int, Jv25 i15 esign4 →
            ∃ Jv_8 : Prop,
            ( cnd (decide (i15 ≥ ((s.size : Nat) : Int)))
               (Jv_8)
               (0 ≤ i15 ∧ i15 < ((s.size : Nat) : Int) ∧ ∃ xc18 : UInt8, s[Int.toNat i15]? = some xc18 ∧ cnd (decide (((UInt8.toNat xc18 : Nat) : Int) < (48 : Int)))
                 (Jv_8)
                 (0 ≤ i15 ∧ i15 < ((s.size : Nat) : Int) ∧ ∃ xc19 : UInt8, s[Int.toNat i15]? = some xc19 ∧ cnd (decide (((UInt8.toNat xc19 : Nat) : Int) > (57 : Int)))
                   (R mantissa10 0 neg2 trunc12 false i15 false)
                   (∃ Jv_9 : Int → Bool → Int → Prop,
                   ( ∃ (Iv4 : Int → Bool → Int → Prop) (m4 : Int → Bool → Int → Nat), Iv4 i15 underscores11 0 ∧
                    ∀ i16 : Int, ∀ underscores12 : Bool, ∀ ev5 : Int, Iv4 i16 underscores12 ev5 →
                    ∃ Jv_10 : Prop,
                    ( ∃ Jv_11 : Bool → Prop,
                     ( cnd (decide (i16 < ((s.size : Nat) : Int)))
                        (0 ≤ i16 ∧ i16 < ((s.size : Nat) : Int) ∧ ∃ xc20 : UInt8, s[Int.toNat i16]? = some xc20 ∧ cnd (decide ((48 : Int) ≤ ((UInt8.toNat xc20 : Nat) : Int)))
                          (0 ≤ i16 ∧ i16 < ((s.size : Nat) : Int) ∧ ∃ xc21 : UInt8, s[Int.toNat i16]? = some xc21 ∧ cnd (decide (((UInt8.toNat xc21 : Nat) : Int) ≤ (57 : Int)))
                            (Jv_10)
                            (0 ≤ i16 ∧ i16 < ((s.size : Nat) : Int) ∧ ∃ xc22 : UInt8, s[Int.toNat i16]? = some xc22 ∧ Jv_11 (((UInt8.toNat xc22 : Nat) : Int) == (95 : Int))))
                          (0 ≤ i16 ∧ i16 < ((s.size : Nat) : Int) ∧ ∃ xc23 : UInt8, s[Int.toNat i16]? = some xc23 ∧ Jv_11 (((UInt8.toNat xc23 : Nat) : Int) == (95 : Int))))
                        (Jv_9 i16 underscores12 ev5)) ∧
                     ∀ x6 : Bool, Jv_11 x6 →
                     cnd x6
                       (Jv_10)
                       (Jv_9 i16 underscores12 ev5)) ∧
                    (Jv_10 →
                    ∃ Jv27 : Bool → Int → Prop,
                    ( 0 ≤ i16 ∧ i16 < ((s.size : Nat) : Int) ∧ ∃ xc24 : UInt8, s[Int.toNat i16]? = some xc24 ∧ cnd (((UInt8.toNat xc24 : Nat) : Int) == (95 : Int))
                       (Jv27 true ev5)
                       (∃ Jv28 : Int → Prop,
                       ( cnd (decide (ev5 < (10000 : Int)))
                          (0 ≤ i16 ∧ i16 < ((s.size : Nat) : Int) ∧ ∃ xc25 : UInt8, s[Int.toNat i16]? = some xc25 ∧ Jv28 (IntKind.i64.wrap ((IntKind.i64.wrap ((IntKind.i64.wrap (ev5 * (10 : Int))) + (IntKind.i64.wrap ((UInt8.toNat xc25 : Nat) : Int)))) - (48 : Int))))
                          (Jv28 ev5)) ∧
                       ∀ ev6 : Int, Jv28 ev6 →
                       Jv27 underscores12 ev6)) ∧
                    ∀ underscores13 : Bool, ∀ ev7 : Int, Jv27 underscores13 ev7 →
                    Iv4 (IntKind.i64.wrap (i16 + (1 : Int))) underscores13 ev7 ∧ m4 (IntKind.i64.wrap (i16 + (1 : Int))) underscores13 ev7 < m4 i16 underscores12 ev5)) ∧
                   ∀ i17 : Int, ∀ underscores14 : Bool, ∀ ev8 : Int, Jv_9 i17 underscores14 ev8 →
                   Jv24 i17 underscores14 (IntKind.i64.wrap (dp12 + (IntKind.i64.wrap (ev8 * esign4)))))))) ∧
            (Jv_8 →
            R mantissa10 0 neg2 trunc12 false i15 false)))
          (cnd ((10 : Int) == (16 : Int))
            (R mantissa10 0 neg2 trunc12 false i13 false)
            (Jv24 i13 underscores11 dp12))) ∧
       ∀ i18 : Int, ∀ underscores15 : Bool, ∀ dp13 : Int, Jv24 i18 underscores15 dp13 →
       Jv_6 i18 underscores15 dp13))
       (cnd ((10 : Int) == (16 : Int))
         (R mantissa10 0 neg2 trunc12 false i13 false)
         (Jv_6 i13 underscores11 dp12))) ∧
    ∀ i19 : Int, ∀ underscores16 : Bool, ∀ dp14 : Int, Jv_6 i19 underscores16 dp14 →
    ∃ Jv29 : Int → Prop,
    ( cnd (mantissa10 != (0 : Int))
       (Jv29 (IntKind.i64.wrap (dp14 - ndMant12)))
       (Jv29 0)) ∧
    ∀ exp2 : Int, Jv29 exp2 →
    ∃ Jv_7 : Prop,
    ( cnd underscores16
       (0 ≤ i19 ∧ i19 ≤ ((s.size : Nat) : Int) ∧ Ok117 (s.extract 0 (Int.toNat i19)) (fun r11 =>
       cnd (!r11)
         (R mantissa10 exp2 neg2 trunc12 false i19 false)
         (Jv_7)))
       (Jv_7)) ∧
    (Jv_7 →
    R mantissa10 exp2 neg2 trunc12 false i19 true))
theorem getB (s : ByteArray) (i : Nat) : s[i]? = s.data.toList[i]? := by
  rw [getElem?_def]
  by_cases h : i < s.size
  · rw [dif_pos h]
    have h2 : i < s.data.toList.length := h
    rw [List.getElem?_eq_getElem h2]; rfl
  · rw [dif_neg h]
    exact (List.getElem?_eq_none (by exact Nat.le_of_not_lt h)).symm
theorem lenB (s : ByteArray) : s.size = s.data.toList.length := rfl
/-- The sign ahead: is it a minus; how many signs. -/
def sgnOf (l : List UInt8) : Bool × Nat :=
  match l with
  | c :: _ => if c = 43 then (false, 1) else if c = 45 then (true, 1) else (false, 0)
  | [] => (false, 0)
theorem lowB0 : ∀ n : Fin 256, bits .or .u8 ((n.val : Nat) : Int) 32 = 120 → n.val = 120 ∨ n.val = 88 := by decide +kernel
theorem lowB (c : UInt8) (h : bits .or .u8 ((UInt8.toNat c : Nat) : Int) 32 = 120) : c = 120 ∨ c = 88 :=
  (lowB0 ⟨c.toNat, c.toNat_lt⟩ h).imp (fun e => UInt8.toNat_inj.1 e) fun e => UInt8.toNat_inj.1 e
theorem ok94' {c : Int} {R : Int → Prop} (r : R (bits .or .u8 c 32)) : Ok94 c R := by
  apply ok94; exact r
theorem ok79b {s : ByteArray} {R : Int → Int → Bool → Bool → Bool → Int → Bool → Prop} (h0 : 0 < s.size) (hs : s.size < 100000) (hx : ∀ c ∈ s.data.toList, c ≠ 120 ∧ c ≠ 88) (r : T79b s (sgnOf s.data.toList).1 (sgnOf s.data.toList).2 R) : Ok79 s R := by
  apply ok79
  unfold T79
  obtain ⟨c0, l, hl⟩ : ∃ c0 l, s.data.toList = c0 :: l := by
    cases h : s.data.toList with
    | nil => rw [lenB, h] at h0; simp at h0
    | cons a b => exact ⟨a, b, rfl⟩
  refine cnd_dec (fun h => absurd h (by omega)) fun _ => ⟨by decide, by omega, c0, by rw [getB, hl]; rfl, fun n i => n = (sgnOf s.data.toList).1 ∧ i = ((sgnOf s.data.toList).2 : Int), ?_, ?_⟩
  · rw [hl]
    refine cnd_eq (fun h => ?_) fun h => ⟨fun n i => n = (sgnOf (c0 :: l)).1 ∧ i = ((sgnOf (c0 :: l)).2 : Int), cnd_eq (fun h2 => ?_) fun h2 => ?_, fun _ _ h => h⟩
    · have : c0 = 43 := UInt8.toNat_inj.1 (by rw [show (43 : UInt8).toNat = 43 from rfl]; omega)
      subst this; exact ⟨rfl, rfl⟩
    · have : c0 = 45 := UInt8.toNat_inj.1 (by rw [show (45 : UInt8).toNat = 45 from rfl]; omega)
      subst this; exact ⟨rfl, rfl⟩
    · have e1 : c0 ≠ 43 := fun e => h (by subst e; rfl)
      have e2 : c0 ≠ 45 := fun e => h2 (by subst e; rfl)
      unfold sgnOf; simp only [if_neg e1, if_neg e2]; exact ⟨trivial, rfl⟩
  rintro _ _ ⟨rfl, rfl⟩
  have hi : (sgnOf s.data.toList).2 ≤ 1 := by
    rw [hl]; unfold sgnOf; simp only []; split
    · exact Nat.le_refl _
    · split <;> simp
  generalize hj : (sgnOf s.data.toList).2 = j at *
  generalize (sgnOf s.data.toList).1 = ng at *
  refine ⟨True, cnd_dec (fun h => ?_) fun _ => trivial, fun _ => r⟩
  have e2 : IntKind.i64.wrap ((j : Int) + 2) = j + 2 := wr (by omega) (by omega)
  have e1 : IntKind.i64.wrap ((j : Int) + 1) = ((j + 1 : Nat) : Int) := by rw [wr (by omega) (by omega)]; omega
  rw [e2] at h
  have hlt : j + 1 < s.data.toList.length := by rw [← lenB]; omega
  refine ⟨by omega, by omega, s.data.toList[j]'(by omega), by rw [getB, Int.toNat_natCast, List.getElem?_eq_getElem], cnd_eq (fun _ => ?_) fun _ => trivial⟩
  rw [e1]
  refine ⟨by omega, by omega, s.data.toList[j + 1], by rw [getB, Int.toNat_natCast, List.getElem?_eq_getElem], ok94' ⟨fun a b c d e => a = false ∧ b = (j : Int) ∧ c = 10 ∧ d = 19 ∧ e = 101, cnd_eq (fun h => ?_) fun _ => ⟨rfl, rfl, rfl, rfl, rfl⟩, ?_⟩⟩
  · have hm := hx _ (List.getElem_mem hlt)
    rcases lowB _ h with e | e
    · exact absurd e hm.1
    · exact absurd e hm.2
  · rintro _ _ _ _ _ ⟨rfl, rfl, rfl, rfl, rfl⟩
    exact r
end Go.Proofs.YtfjflbapojgbhaaGreatDoor.N
