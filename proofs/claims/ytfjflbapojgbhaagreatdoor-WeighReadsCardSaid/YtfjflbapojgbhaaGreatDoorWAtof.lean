/- readFloat: a text's digits, point, exponent. Conditions: none. -/
import Derived.Test.YtfjflbapojgbhaaGreatDoorWParse
namespace Go.Proofs.YtfjflbapojgbhaaGreatDoor.N
open Go.X Go.Proofs.YtfjflbapojgbhaaGreatDoor
set_option maxRecDepth 100000
set_option maxHeartbeats 1000000

/-- What comes behind the sign and the base (the text of T79 has it twice). -/
def T79b (s : ByteArray) (neg2 : Bool) (i2 : Int) (R : Int → Int → Bool → Bool → Bool → Int → Bool → Prop) : Prop :=
  ∃ Jv17 : Int → Bool → Int → Bool → Bool → Bool → Int → Int → Int → Prop,
  ( ∃ (Iv3 : Int → Bool → Int → Bool → Bool → Bool → Int → Int → Int → Prop) (m3 : Int → Bool → Int → Bool → Bool → Bool → Int → Int → Int → Nat), Iv3 0 false i2 false false false 0 0 0 ∧
  ∀ mantissa6 : Int, ∀ trunc7 : Bool, ∀ i12 : Int, ∀ underscores9 : Bool, ∀ sawdot4 : Bool, ∀ sawdigits4 : Bool, ∀ nd4 : Int, ∀ ndMant7 : Int, ∀ dp8 : Int, Iv3 mantissa6 trunc7 i12 underscores9 sawdot4 sawdigits4 nd4 ndMant7 dp8 →
  cnd (decide (i12 < ((s.size : Nat) : Int)))
   (∃ Jv18 : Int → Bool → Bool → Bool → Bool → Int → Int → Int → Prop,
   ( 0 ≤ i12 ∧ i12 < ((s.size : Nat) : Int) ∧ ∃ xc15 : UInt8, s[Int.toNat i12]? = some xc15 ∧ cnd (true == (((UInt8.toNat xc15 : Nat) : Int) == (95 : Int)))
     (Jv18 mantissa6 trunc7 true sawdot4 sawdigits4 nd4 ndMant7 dp8)
     (cnd (true == (((UInt8.toNat xc15 : Nat) : Int) == (46 : Int)))
      (cnd sawdot4
       (Jv17 mantissa6 trunc7 i12 underscores9 sawdot4 sawdigits4 nd4 ndMant7 dp8)
       (Jv18 mantissa6 trunc7 underscores9 true sawdigits4 nd4 ndMant7 nd4))
      (∃ Jv_3 : Bool → Prop,
      ( cnd (decide ((48 : Int) ≤ ((UInt8.toNat xc15 : Nat) : Int)))
       (Jv_3 (true == (decide (((UInt8.toNat xc15 : Nat) : Int) ≤ (57 : Int)))))
       (Jv_3 (true == false))) ∧
      ∀ x4 : Bool, Jv_3 x4 →
      cnd x4
       (∃ Jv_4 : Prop,
       ( cnd (((UInt8.toNat xc15 : Nat) : Int) == (48 : Int))
        (cnd (nd4 == (0 : Int))
         (Jv18 mantissa6 trunc7 underscores9 sawdot4 true nd4 ndMant7 (IntKind.i64.wrap (dp8 - (1 : Int))))
         (Jv_4))
        (Jv_4)) ∧
       (Jv_4 →
       ∃ Jv19 : Int → Bool → Int → Prop,
       ( cnd (decide (ndMant7 < (19 : Int)))
        (Jv19 (IntKind.u64.wrap ((IntKind.u64.wrap (mantissa6 * (10 : Int))) + (IntKind.u64.wrap (IntKind.u8.wrap (((UInt8.toNat xc15 : Nat) : Int) - (48 : Int)))))) trunc7 (IntKind.i64.wrap (ndMant7 + (1 : Int))))
        (∃ Jv20 : Bool → Prop,
        ( cnd (((UInt8.toNat xc15 : Nat) : Int) != (48 : Int))
          (Jv20 true)
          (Jv20 trunc7)) ∧
        ∀ trunc8 : Bool, Jv20 trunc8 →
        Jv19 mantissa6 trunc8 ndMant7)) ∧
       ∀ mantissa7 : Int, ∀ trunc9 : Bool, ∀ ndMant8 : Int, Jv19 mantissa7 trunc9 ndMant8 →
       Jv18 mantissa7 trunc9 underscores9 sawdot4 true (IntKind.i64.wrap (nd4 + (1 : Int))) ndMant8 dp8))
       (∃ Jv_5 : Bool → Prop,
       ( cnd ((10 : Int) == (16 : Int))
        (Ok94 ((UInt8.toNat xc15 : Nat) : Int) (fun r7 =>
        cnd (decide ((97 : Int) ≤ r7))
         (Ok94 ((UInt8.toNat xc15 : Nat) : Int) (fun r8 =>
         Jv_5 (true == (decide (r8 ≤ (102 : Int))))))
         (Jv_5 (true == false))))
        (Jv_5 (true == false))) ∧
       ∀ x5 : Bool, Jv_5 x5 →
       cnd x5
        (∃ Jv21 : Int → Bool → Int → Prop,
        ( cnd (decide (ndMant7 < (19 : Int)))
         (Ok94 ((UInt8.toNat xc15 : Nat) : Int) (fun r9 =>
         Jv21 (IntKind.u64.wrap ((IntKind.u64.wrap (mantissa6 * (16 : Int))) + (IntKind.u64.wrap (IntKind.u8.wrap ((IntKind.u8.wrap (r9 - (97 : Int))) + (10 : Int)))))) trunc7 (IntKind.i64.wrap (ndMant7 + (1 : Int)))))
         (Jv21 mantissa6 true ndMant7)) ∧
        ∀ mantissa8 : Int, ∀ trunc10 : Bool, ∀ ndMant9 : Int, Jv21 mantissa8 trunc10 ndMant9 →
        Jv18 mantissa8 trunc10 underscores9 sawdot4 true (IntKind.i64.wrap (nd4 + (1 : Int))) ndMant9 dp8)
        (Jv17 mantissa6 trunc7 i12 underscores9 sawdot4 sawdigits4 nd4 ndMant7 dp8))))) ∧
   ∀ mantissa9 : Int, ∀ trunc11 : Bool, ∀ underscores10 : Bool, ∀ sawdot5 : Bool, ∀ sawdigits5 : Bool, ∀ nd5 : Int, ∀ ndMant10 : Int, ∀ dp9 : Int, Jv18 mantissa9 trunc11 underscores10 sawdot5 sawdigits5 nd5 ndMant10 dp9 →
   Iv3 mantissa9 trunc11 (IntKind.i64.wrap (i12 + (1 : Int))) underscores10 sawdot5 sawdigits5 nd5 ndMant10 dp9 ∧ m3 mantissa9 trunc11 (IntKind.i64.wrap (i12 + (1 : Int))) underscores10 sawdot5 sawdigits5 nd5 ndMant10 dp9 < m3 mantissa6 trunc7 i12 underscores9 sawdot4 sawdigits4 nd4 ndMant7 dp8)
   (Jv17 mantissa6 trunc7 i12 underscores9 sawdot4 sawdigits4 nd4 ndMant7 dp8)) ∧
  ∀ mantissa10 : Int, ∀ trunc12 : Bool, ∀ i13 : Int, ∀ underscores11 : Bool, ∀ sawdot6 : Bool, ∀ sawdigits6 : Bool, ∀ nd6 : Int, ∀ ndMant11 : Int, ∀ dp10 : Int, Jv17 mantissa10 trunc12 i13 underscores11 sawdot6 sawdigits6 nd6 ndMant11 dp10 →
  cnd (!sawdigits6)
   (R mantissa10 0 neg2 trunc12 false i13 false)
   (∃ Jv22 : Int → Prop,
   ( cnd (!sawdot6)
    (Jv22 nd6)
    (Jv22 dp10)) ∧
   ∀ dp11 : Int, Jv22 dp11 →
   ∃ Jv23 : Int → Int → Prop,
   ( cnd ((10 : Int) == (16 : Int))
    (Jv23 (IntKind.i64.wrap (ndMant11 * (4 : Int))) (IntKind.i64.wrap (dp11 * (4 : Int))))
    (Jv23 ndMant11 dp11)) ∧
   ∀ ndMant12 : Int, ∀ dp12 : Int, Jv23 ndMant12 dp12 →
   ∃ Jv_6 : Int → Bool → Int → Prop,
   ( cnd (decide (i13 < ((s.size : Nat) : Int)))
    (0 ≤ i13 ∧ i13 < ((s.size : Nat) : Int) ∧ ∃ xc16 : UInt8, s[Int.toNat i13]? = some xc16 ∧ Ok94 ((UInt8.toNat xc16 : Nat) : Int) (fun r10 =>
    ∃ Jv24 : Int → Bool → Int → Prop,
    ( cnd (r10 == (101 : Int))
      (cnd (decide ((IntKind.i64.wrap (i13 + (1 : Int))) ≥ ((s.size : Nat) : Int)))
       (R mantissa10 0 neg2 trunc12 false (IntKind.i64.wrap (i13 + (1 : Int))) false)
       (0 ≤ (IntKind.i64.wrap (i13 + (1 : Int))) ∧ (IntKind.i64.wrap (i13 + (1 : Int))) < ((s.size : Nat) : Int) ∧ ∃ xc17 : UInt8, s[Int.toNat (IntKind.i64.wrap (i13 + (1 : Int)))]? = some xc17 ∧ ∃ Jv25 : Int → Int → Prop,
       ( cnd (((UInt8.toNat xc17 : Nat) : Int) == (43 : Int))
        (Jv25 (IntKind.i64.wrap ((IntKind.i64.wrap (i13 + (1 : Int))) + (1 : Int))) 1)
        (∃ Jv26 : Int → Int → Prop,
        ( cnd (((UInt8.toNat xc17 : Nat) : Int) == (45 : Int))
          (Jv26 (IntKind.i64.wrap ((IntKind.i64.wrap (i13 + (1 : Int))) + (1 : Int))) (-1))
          (Jv26 (IntKind.i64.wrap (i13 + (1 : Int))) 1)) ∧
        ∀ i14 : Int, ∀ esign3 : Int, Jv26 i14 esign3 →
        Jv25 i14 esign3)) ∧
       ∀ i15 : Int, ∀ esign4 : Int, Jv25 i15 esign4 →
       ∃ Jv_8 : Prop,
       ( cnd (decide (i15 ≥ ((s.size : Nat) : Int)))
        (Jv_8)
        (0 ≤ i15 ∧ i15 < ((s.size : Nat) : Int) ∧ ∃ xc18 : UInt8, s[Int.toNat i15]? = some xc18 ∧ cnd (decide (((UInt8.toNat xc18 : Nat) : Int) < (48 : Int)))
         (Jv_8)
         (0 ≤ i15 ∧ i15 < ((s.size : Nat) : Int) ∧ ∃ xc19 : UInt8, s[Int.toNat i15]? = some xc19 ∧ cnd (decide (((UInt8.toNat xc19 : Nat) : Int) > (57 : Int)))
          (R mantissa10 0 neg2 trunc12 false i15 false)
          (∃ Jv_9 : Int → Bool → Int → Prop,
          ( ∃ (Iv4 : Int → Bool → Int → Prop) (m4 : Int → Bool → Int → Nat), Iv4 i15 underscores11 0 ∧
           ∀ i16 : Int, ∀ underscores12 : Bool, ∀ ev5 : Int, Iv4 i16 underscores12 ev5 →
           ∃ Jv_10 : Prop,
           ( ∃ Jv_11 : Bool → Prop,
           ( cnd (decide (i16 < ((s.size : Nat) : Int)))
             (0 ≤ i16 ∧ i16 < ((s.size : Nat) : Int) ∧ ∃ xc20 : UInt8, s[Int.toNat i16]? = some xc20 ∧ cnd (decide ((48 : Int) ≤ ((UInt8.toNat xc20 : Nat) : Int)))
              (0 ≤ i16 ∧ i16 < ((s.size : Nat) : Int) ∧ ∃ xc21 : UInt8, s[Int.toNat i16]? = some xc21 ∧ cnd (decide (((UInt8.toNat xc21 : Nat) : Int) ≤ (57 : Int)))
               (Jv_10)
               (0 ≤ i16 ∧ i16 < ((s.size : Nat) : Int) ∧ ∃ xc22 : UInt8, s[Int.toNat i16]? = some xc22 ∧ Jv_11 (((UInt8.toNat xc22 : Nat) : Int) == (95 : Int))))
              (0 ≤ i16 ∧ i16 < ((s.size : Nat) : Int) ∧ ∃ xc23 : UInt8, s[Int.toNat i16]? = some xc23 ∧ Jv_11 (((UInt8.toNat xc23 : Nat) : Int) == (95 : Int))))
             (Jv_9 i16 underscores12 ev5)) ∧
           ∀ x6 : Bool, Jv_11 x6 →
           cnd x6
            (Jv_10)
            (Jv_9 i16 underscores12 ev5)) ∧
           (Jv_10 →
           ∃ Jv27 : Bool → Int → Prop,
           ( 0 ≤ i16 ∧ i16 < ((s.size : Nat) : Int) ∧ ∃ xc24 : UInt8, s[Int.toNat i16]? = some xc24 ∧ cnd (((UInt8.toNat xc24 : Nat) : Int) == (95 : Int))
            (Jv27 true ev5)
            (∃ Jv28 : Int → Prop,
            ( cnd (decide (ev5 < (10000 : Int)))
              (0 ≤ i16 ∧ i16 < ((s.size : Nat) : Int) ∧ ∃ xc25 : UInt8, s[Int.toNat i16]? = some xc25 ∧ Jv28 (IntKind.i64.wrap ((IntKind.i64.wrap ((IntKind.i64.wrap (ev5 * (10 : Int))) + (IntKind.i64.wrap ((UInt8.toNat xc25 : Nat) : Int)))) - (48 : Int))))
              (Jv28 ev5)) ∧
            ∀ ev6 : Int, Jv28 ev6 →
            Jv27 underscores12 ev6)) ∧
           ∀ underscores13 : Bool, ∀ ev7 : Int, Jv27 underscores13 ev7 →
           Iv4 (IntKind.i64.wrap (i16 + (1 : Int))) underscores13 ev7 ∧ m4 (IntKind.i64.wrap (i16 + (1 : Int))) underscores13 ev7 < m4 i16 underscores12 ev5)) ∧
          ∀ i17 : Int, ∀ underscores14 : Bool, ∀ ev8 : Int, Jv_9 i17 underscores14 ev8 →
          Jv24 i17 underscores14 (IntKind.i64.wrap (dp12 + (IntKind.i64.wrap (ev8 * esign4)))))))) ∧
       (Jv_8 →
       R mantissa10 0 neg2 trunc12 false i15 false)))
      (cnd ((10 : Int) == (16 : Int))
       (R mantissa10 0 neg2 trunc12 false i13 false)
       (Jv24 i13 underscores11 dp12))) ∧
    ∀ i18 : Int, ∀ underscores15 : Bool, ∀ dp13 : Int, Jv24 i18 underscores15 dp13 →
    Jv_6 i18 underscores15 dp13))
    (cnd ((10 : Int) == (16 : Int))
     (R mantissa10 0 neg2 trunc12 false i13 false)
     (Jv_6 i13 underscores11 dp12))) ∧
   ∀ i19 : Int, ∀ underscores16 : Bool, ∀ dp14 : Int, Jv_6 i19 underscores16 dp14 →
   ∃ Jv29 : Int → Prop,
   ( cnd (mantissa10 != (0 : Int))
    (Jv29 (IntKind.i64.wrap (dp14 - ndMant12)))
    (Jv29 0)) ∧
   ∀ exp2 : Int, Jv29 exp2 →
   ∃ Jv_7 : Prop,
   ( cnd underscores16
    (0 ≤ i19 ∧ i19 ≤ ((s.size : Nat) : Int) ∧ Ok117 (s.extract 0 (Int.toNat i19)) (fun r11 =>
    cnd (!r11)
     (R mantissa10 exp2 neg2 trunc12 false i19 false)
     (Jv_7)))
    (Jv_7)) ∧
   (Jv_7 →
   R mantissa10 exp2 neg2 trunc12 false i19 true))
theorem getB (s : ByteArray) (i : Nat) : s[i]? = s.data.toList[i]? := by
  rw [getElem?_def]
  by_cases h : i < s.size
  · rw [dif_pos h]
    have h2 : i < s.data.toList.length := h
    rw [List.getElem?_eq_getElem h2]; rfl
  · rw [dif_neg h]
    exact (List.getElem?_eq_none (by exact Nat.le_of_not_lt h)).symm
theorem lenB (s : ByteArray) : s.size = s.data.toList.length := rfl
/-- The sign ahead: is it a minus; how many signs. -/
def sgnOf (l : List UInt8) : Bool × Nat :=
  match l with
  | c :: _ => if c = 43 then (false, 1) else if c = 45 then (true, 1) else (false, 0)
  | [] => (false, 0)
theorem lowB0 : ∀ n : Fin 256, bits .or .u8 ((n.val : Nat) : Int) 32 = 120 → n.val = 120 ∨ n.val = 88 := by decide +kernel
theorem lowB (c : UInt8) (h : bits .or .u8 ((UInt8.toNat c : Nat) : Int) 32 = 120) : c = 120 ∨ c = 88 :=
  (lowB0 ⟨c.toNat, c.toNat_lt⟩ h).imp (fun e => UInt8.toNat_inj.1 e) fun e => UInt8.toNat_inj.1 e
theorem ok94' {c : Int} {R : Int → Prop} (r : R (bits .or .u8 c 32)) : Ok94 c R := by
  apply ok94; exact r
theorem ok79b {s : ByteArray} {R : Int → Int → Bool → Bool → Bool → Int → Bool → Prop} (h0 : 0 < s.size) (hs : s.size < 100000) (hx : ∀ c ∈ s.data.toList, c ≠ 120 ∧ c ≠ 88) (r : T79b s (sgnOf s.data.toList).1 (sgnOf s.data.toList).2 R) : Ok79 s R := by
  apply ok79
  unfold T79
  obtain ⟨c0, l, hl⟩ : ∃ c0 l, s.data.toList = c0 :: l := by
    cases h : s.data.toList with
    | nil => rw [lenB, h] at h0; simp at h0
    | cons a b => exact ⟨a, b, rfl⟩
  refine cnd_dec (fun h => absurd h (by omega)) fun _ => ⟨by decide, by omega, c0, by rw [getB, hl]; rfl, fun n i => n = (sgnOf s.data.toList).1 ∧ i = ((sgnOf s.data.toList).2 : Int), ?_, ?_⟩
  · rw [hl]
    refine cnd_eq (fun h => ?_) fun h => ⟨fun n i => n = (sgnOf (c0 :: l)).1 ∧ i = ((sgnOf (c0 :: l)).2 : Int), cnd_eq (fun h2 => ?_) fun h2 => ?_, fun _ _ h => h⟩
    · have : c0 = 43 := UInt8.toNat_inj.1 (by rw [show (43 : UInt8).toNat = 43 from rfl]; omega)
      subst this; exact ⟨rfl, rfl⟩
    · have : c0 = 45 := UInt8.toNat_inj.1 (by rw [show (45 : UInt8).toNat = 45 from rfl]; omega)
      subst this; exact ⟨rfl, rfl⟩
    · have e1 : c0 ≠ 43 := fun e => h (by subst e; rfl)
      have e2 : c0 ≠ 45 := fun e => h2 (by subst e; rfl)
      unfold sgnOf; simp only [if_neg e1, if_neg e2]; exact ⟨trivial, rfl⟩
  rintro _ _ ⟨rfl, rfl⟩
  have hi : (sgnOf s.data.toList).2 ≤ 1 := by
    rw [hl]; unfold sgnOf; simp only []; split
    · exact Nat.le_refl _
    · split <;> simp
  generalize hj : (sgnOf s.data.toList).2 = j at *
  generalize (sgnOf s.data.toList).1 = ng at *
  refine ⟨True, cnd_dec (fun h => ?_) fun _ => trivial, fun _ => r⟩
  have e2 : IntKind.i64.wrap ((j : Int) + 2) = j + 2 := wr (by omega) (by omega)
  have e1 : IntKind.i64.wrap ((j : Int) + 1) = ((j + 1 : Nat) : Int) := by rw [wr (by omega) (by omega)]; omega
  rw [e2] at h
  have hlt : j + 1 < s.data.toList.length := by rw [← lenB]; omega
  refine ⟨by omega, by omega, s.data.toList[j]'(by omega), by rw [getB, Int.toNat_natCast, List.getElem?_eq_getElem], cnd_eq (fun _ => ?_) fun _ => trivial⟩
  rw [e1]
  refine ⟨by omega, by omega, s.data.toList[j + 1], by rw [getB, Int.toNat_natCast, List.getElem?_eq_getElem], ok94' ⟨fun a b c d e => a = false ∧ b = (j : Int) ∧ c = 10 ∧ d = 19 ∧ e = 101, cnd_eq (fun h => ?_) fun _ => ⟨rfl, rfl, rfl, rfl, rfl⟩, ?_⟩⟩
  · have hm := hx _ (List.getElem_mem hlt)
    rcases lowB _ h with e | e
    · exact absurd e hm.1
    · exact absurd e hm.2
  · rintro _ _ _ _ _ ⟨rfl, rfl, rfl, rfl, rfl⟩
    exact r
end Go.Proofs.YtfjflbapojgbhaaGreatDoor.N

/- readFloat as a function: digits scanned, the exponent read. Conditions: none. -/
namespace Go.Proofs.YtfjflbapojgbhaaGreatDoor.N
open Go.X Go.Proofs.YtfjflbapojgbhaaGreatDoor
set_option maxRecDepth 100000
set_option maxHeartbeats 2000000

structure RS where
  m : Nat
  tr : Bool
  dot : Bool
  dig : Bool
  nd : Nat
  nm : Nat
  dp : Int
def RS0 : RS := ⟨0, false, false, false, 0, 0, 0⟩
def stepD (st : RS) (d : Nat) : RS :=
  if d = 0 ∧ st.nd = 0 then ⟨st.m, st.tr, st.dot, true, st.nd, st.nm, st.dp - 1⟩
  else if st.nm < 19 then ⟨st.m * 10 + d, st.tr, st.dot, true, st.nd + 1, st.nm + 1, st.dp⟩
  else ⟨st.m, st.tr || decide (d ≠ 0), st.dot, true, st.nd + 1, st.nm, st.dp⟩
def dotS (st : RS) : RS := ⟨st.m, st.tr, true, st.dig, st.nd, st.nm, st.nd⟩
def isD (c : UInt8) : Bool := decide (48 ≤ c.toNat) && decide (c.toNat ≤ 57)
def scan : RS → List UInt8 → RS × List UInt8
  | st, [] => (st, [])
  | st, c :: r => if c = 46 then (if st.dot then (st, c :: r) else scan (dotS st) r) else if isD c then scan (stepD st (c.toNat - 48)) r else (st, c :: r)
def decV (ds : List UInt8) : Nat := ds.foldl (fun a c => a * 10 + (c.toNat - 48)) 0
/-- What stands behind the digits. -/
def eVal : List UInt8 → Int
  | [] => 0
  | _ :: r => if r.head? = some 43 then decV r.tail else if r.head? = some 45 then -(decV r.tail : Int) else decV r
def expV (st : RS) (rest : List UInt8) : Int := if st.m ≠ 0 then (if st.dot then st.dp else (st.nd : Int)) + eVal rest - st.nm else 0
structure Inv (l : List UInt8) (stF : RS) (rest : List UInt8) (st : RS) (k : Nat) : Prop where
  sc : scan st (l.drop k) = (stF, rest)
  nm : st.nm ≤ 19
  m : st.m < 10 ^ st.nm
  nn : st.nm ≤ st.nd
  nd : st.nd ≤ k
  d0 : -(k : Int) ≤ st.dp
  d1 : st.dp ≤ k
  k : k ≤ l.length
theorem Inv.lt64 {l : List UInt8} {stF st : RS} {rest : List UInt8} {k : Nat} (h : Inv l stF rest st k) : st.m < 10000000000000000000 := by
  have := Nat.pow_le_pow_right (n := 10) (by decide) h.nm
  have := h.m
  omega
theorem c95 {c : UInt8} (h : c ≠ 95) : (true == (((UInt8.toNat c : Nat) : Int) == 95)) = false := by
  have : c.toNat ≠ 95 := fun e => h (UInt8.toNat_inj.1 e)
  rw [beq_eq_false_iff_ne]; intro e
  have := (beq_iff_eq.1 e.symm)
  omega
theorem c46 (c : UInt8) : (true == (((UInt8.toNat c : Nat) : Int) == 46)) = decide (c = 46) := by
  by_cases h : c = 46
  · subst h; rfl
  · have : c.toNat ≠ 46 := fun e => h (UInt8.toNat_inj.1 e)
    rw [decide_eq_false h, beq_eq_false_iff_ne]; intro e
    have := (beq_iff_eq.1 e.symm)
    omega
theorem Inv.step {l : List UInt8} {stF st : RS} {rest : List UInt8} {k : Nat} (h : Inv l stF rest st k) {c : UInt8} (hc : l[k]? = some c) (hd : isD c = true) (h46 : c ≠ 46) : Inv l stF rest (stepD st (c.toNat - 48)) (k + 1) := by
  have hk : k < l.length := (List.getElem?_eq_some_iff.1 hc).1
  have hdr : l.drop k = c :: l.drop (k + 1) := by
    rw [List.drop_eq_getElem_cons hk]; congr 1; exact (List.getElem?_eq_some_iff.1 hc).2
  have hs := h.sc
  rw [hdr] at hs
  simp only [scan, if_neg h46, hd, if_true] at hs
  simp only [isD, Bool.and_eq_true, decide_eq_true_eq] at hd
  have := h.nm; have := h.m; have := h.nn; have := h.nd; have := h.d0; have := h.d1
  refine ⟨hs, ?_, ?_, ?_, ?_, ?_, ?_, hk⟩
  all_goals unfold stepD
  · split
    · exact h.nm
    · split
      · show st.nm + 1 ≤ 19; omega
      · exact h.nm
  · split
    · exact h.m
    · split
      · show st.m * 10 + (c.toNat - 48) < 10 ^ (st.nm + 1)
        rw [Nat.pow_succ]; omega
      · exact h.m
  · split
    · exact h.nn
    · split
      · show st.nm + 1 ≤ st.nd + 1; omega
      · show st.nm ≤ st.nd + 1; omega
  · split
    · show st.nd ≤ k + 1; omega
    · split
      · show st.nd + 1 ≤ k + 1; omega
      · show st.nd + 1 ≤ k + 1; omega
  · split
    · show -((k + 1 : Nat) : Int) ≤ st.dp - 1; omega
    · split
      · show -((k + 1 : Nat) : Int) ≤ st.dp; omega
      · show -((k + 1 : Nat) : Int) ≤ st.dp; omega
  · split
    · show st.dp - 1 ≤ ((k + 1 : Nat) : Int); omega
    · split
      · show st.dp ≤ ((k + 1 : Nat) : Int); omega
      · show st.dp ≤ ((k + 1 : Nat) : Int); omega
theorem Inv.dots {l : List UInt8} {stF st : RS} {rest : List UInt8} {k : Nat} (h : Inv l stF rest st k) (hc : l[k]? = some 46) (hd : st.dot = false) : Inv l stF rest (dotS st) (k + 1) := by
  have hk : k < l.length := (List.getElem?_eq_some_iff.1 hc).1
  have hdr : l.drop k = 46 :: l.drop (k + 1) := by
    rw [List.drop_eq_getElem_cons hk]; congr 1; exact (List.getElem?_eq_some_iff.1 hc).2
  have hs := h.sc
  rw [hdr] at hs
  simp only [scan, if_true, hd, Bool.false_eq_true, if_false] at hs
  have := h.nd
  exact ⟨hs, h.nm, h.m, h.nn, by show st.nd ≤ k + 1; omega, by show -((k + 1 : Nat) : Int) ≤ (st.nd : Int); omega, by show (st.nd : Int) ≤ ((k + 1 : Nat) : Int); omega, hk⟩
theorem Inv.stop {l : List UInt8} {stF st : RS} {rest : List UInt8} {k : Nat} (h : Inv l stF rest st k) {c : UInt8} (hc : l[k]? = some c) (hd : (c = 46 ∧ st.dot = true) ∨ (c ≠ 46 ∧ isD c = false)) : st = stF ∧ rest = l.drop k := by
  have hk : k < l.length := (List.getElem?_eq_some_iff.1 hc).1
  have hdr : l.drop k = c :: l.drop (k + 1) := by
    rw [List.drop_eq_getElem_cons hk]; congr 1; exact (List.getElem?_eq_some_iff.1 hc).2
  have hs := h.sc
  rw [hdr] at hs ⊢
  rcases hd with ⟨rfl, hd⟩ | ⟨h46, hd⟩
  · simp only [scan, if_true, hd, Prod.mk.injEq] at hs
    exact ⟨hs.1, hs.2.symm⟩
  · simp only [scan, if_neg h46, hd, Bool.false_eq_true, if_false, Prod.mk.injEq] at hs
    exact ⟨hs.1, hs.2.symm⟩
theorem Inv.fin {l : List UInt8} {stF st : RS} {rest : List UInt8} {k : Nat} (h : Inv l stF rest st k) (hk : ¬ k < l.length) : st = stF ∧ rest = l.drop k := by
  have hdr : l.drop k = [] := List.drop_eq_nil_of_le (by omega)
  have hs := h.sc
  rw [hdr] at hs ⊢
  simp only [scan, Prod.mk.injEq] at hs
  exact ⟨hs.1, hs.2.symm⟩
/-- The exponent's text. -/
structure Expo (rest : List UInt8) (c : UInt8) (sg ds : List UInt8) : Prop where
  eq : rest = c :: (sg ++ ds)
  e : c = 101 ∨ c = 69
  sg : sg = [] ∨ sg = [43] ∨ sg = [45]
  ne : ds ≠ []
  le : ds.length ≤ 4
  dg : ∀ d ∈ ds, isD d = true
end Go.Proofs.YtfjflbapojgbhaaGreatDoor.N

/- readFloat answers as the scan does, for texts of numbers. Conditions: none. -/
namespace Go.Proofs.YtfjflbapojgbhaaGreatDoor.N
open Go.X Go.Proofs.YtfjflbapojgbhaaGreatDoor
set_option maxRecDepth 100000
set_option maxHeartbeats 4000000

theorem low101_0 : ∀ n : Fin 256, (bits .or .u8 ((n.val : Nat) : Int) 32 = 101) ↔ (n.val = 101 ∨ n.val = 69) := by decide +kernel
theorem low101 (c : UInt8) : (bits .or .u8 ((UInt8.toNat c : Nat) : Int) 32 = 101) ↔ (c = 101 ∨ c = 69) := by
  have := low101_0 ⟨c.toNat, c.toNat_lt⟩
  rw [this]
  exact ⟨fun h => h.imp (fun e => UInt8.toNat_inj.1 e) fun e => UInt8.toNat_inj.1 e, fun h => h.imp (fun e => by subst e; rfl) fun e => by subst e; rfl⟩
theorem eqB {c d : UInt8} : (((UInt8.toNat c : Nat) : Int) = (d.toNat : Int)) ↔ c = d :=
  ⟨fun h => UInt8.toNat_inj.1 (by omega), fun h => by rw [h]⟩
theorem decV_take {ds : List UInt8} {q : Nat} {d : UInt8} (h : ds[q]? = some d) : decV (ds.take (q + 1)) = decV (ds.take q) * 10 + (d.toNat - 48) := by
  rw [List.take_add_one, h]
  unfold decV
  rw [List.foldl_append]; rfl
theorem decV_lt {ds : List UInt8} (hd : ∀ d ∈ ds, 48 ≤ d.toNat ∧ d.toNat ≤ 57) : ∀ q, q ≤ ds.length → decV (ds.take q) < 10 ^ q
  | 0, _ => by simp [decV]
  | q + 1, hq => by
    have h := List.getElem?_eq_getElem (show q < ds.length by omega)
    have hm := hd _ (List.getElem_mem (show q < ds.length by omega))
    have ih := decV_lt hd q (by omega)
    rw [decV_take h, Nat.pow_succ]; omega
theorem eVal_eq {c : UInt8} {sg ds : List UInt8} (hsg : sg = [] ∨ sg = [43] ∨ sg = [45]) (hd : ∀ d ∈ ds, 48 ≤ d.toNat ∧ d.toNat ≤ 57) : eVal (c :: (sg ++ ds)) = (decV ds : Int) * (if sg = [45] then -1 else 1) := by
  rcases hsg with rfl | rfl | rfl
  · cases ds with
    | nil => simp [eVal, decV]
    | cons a b =>
      have ha := hd a (by simp)
      have e1 : a ≠ 43 := fun e => by subst e; simp at ha
      have e2 : a ≠ 45 := fun e => by subst e; simp at ha
      simp only [eVal, List.nil_append, List.head?_cons, Option.some.injEq, if_neg e1, if_neg e2]
      simp
  · simp [eVal]
  · simp [eVal]
theorem readTail {s : ByteArray} {ng : Bool} {j : Nat} {stF : RS} {rest : List UInt8} {R : Int → Int → Bool → Bool → Bool → Int → Bool → Prop} (hs : s.size < 100000) (hnu : ∀ c ∈ s.data.toList, c ≠ 95) (hj : j ≤ s.data.toList.length)
    (hsc : scan RS0 (s.data.toList.drop j) = (stF, rest)) (hdig : stF.dig = true) (hrest : rest = [] ∨ ∃ c sg ds, Expo rest c sg ds)
    (r : R stF.m (expV stF rest) ng stF.tr false s.data.toList.length true) : T79b s ng j R := by
  have hsz : s.size = s.data.toList.length := rfl
  generalize hl : s.data.toList = l at *
  have at' : ∀ k : Nat, s[k]? = l[k]? := fun k => by rw [getB, hl]
  have hI0 : Inv l stF rest RS0 j := ⟨hsc, by decide, by decide, by decide, Nat.zero_le _, by show -(j : Int) ≤ 0; omega, by show (0 : Int) ≤ j; omega, hj⟩
  unfold T79b
  refine ⟨fun a b i c d e f g h => a = stF.m ∧ b = stF.tr ∧ c = false ∧ d = stF.dot ∧ e = stF.dig ∧ f = stF.nd ∧ g = stF.nm ∧ h = stF.dp ∧ ∃ k : Nat, i = k ∧ Inv l stF rest stF k ∧ rest = l.drop k,
    ⟨fun a b i c d e f g h => ∃ (st : RS) (k : Nat), a = st.m ∧ b = st.tr ∧ i = k ∧ c = false ∧ d = st.dot ∧ e = st.dig ∧ f = st.nd ∧ g = st.nm ∧ h = st.dp ∧ Inv l stF rest st k,
     fun _ _ i _ _ _ _ _ _ => l.length - i.toNat, ⟨RS0, j, rfl, rfl, rfl, rfl, rfl, rfl, rfl, rfl, rfl, hI0⟩, ?_⟩, ?_⟩
  · rintro _ _ _ _ _ _ _ _ _ ⟨st, k, rfl, rfl, rfl, rfl, rfl, rfl, rfl, rfl, rfl, hI⟩
    rw [hsz]
    refine cnd_dec (fun hlt => ?_) fun hge => ?_
    · have hk : k < l.length := by omega
      refine ⟨fun a b c d e f g h => ∃ st' : RS, a = st'.m ∧ b = st'.tr ∧ c = false ∧ d = st'.dot ∧ e = st'.dig ∧ f = st'.nd ∧ g = st'.nm ∧ h = st'.dp ∧ Inv l stF rest st' (k + 1), ?_, ?_⟩
      · obtain ⟨c, hc⟩ : ∃ c, l[k]? = some c := ⟨_, List.getElem?_eq_getElem hk⟩
        have hcm : c ∈ l := List.mem_of_getElem? hc
        have exit : (c = 46 ∧ st.dot = true) ∨ (c ≠ 46 ∧ isD c = false) → ((st.m : Int) = stF.m ∧ st.tr = stF.tr ∧ false = false ∧ st.dot = stF.dot ∧ st.dig = stF.dig ∧ (st.nd : Int) = stF.nd ∧ (st.nm : Int) = stF.nm ∧ st.dp = stF.dp ∧ ∃ k' : Nat, (k : Int) = k' ∧ Inv l stF rest stF k' ∧ rest = l.drop k') := by
          intro hd
          obtain ⟨rfl, e2⟩ := hI.stop hc hd
          exact ⟨rfl, rfl, rfl, rfl, rfl, rfl, rfl, rfl, k, rfl, hI, e2⟩
        refine ⟨by omega, hlt, c, by rw [Int.toNat_natCast, at', hc], cnd_f (c95 (hnu c hcm)) ?_⟩
        rw [c46]
        refine cnd_dec (fun h46 => ?_) fun h46 => ?_
        · subst h46
          refine cnd_b (fun hd => exit (.inl ⟨rfl, hd⟩)) fun hd => ⟨dotS st, rfl, rfl, rfl, rfl, rfl, rfl, rfl, rfl, hI.dots hc hd⟩
        · refine ⟨fun x => x = isD c, cnd_dec (fun h => ?_) fun h => ?_, ?_⟩
          · have h1 : 48 ≤ c.toNat := by omega
            simp only [isD, decide_eq_true h1, Bool.true_and]
            by_cases h2 : c.toNat ≤ 57
            · rw [decide_eq_true h2, decide_eq_true (show ((c.toNat : Nat) : Int) ≤ 57 by omega)]; rfl
            · rw [decide_eq_false h2, decide_eq_false (show ¬ ((c.toNat : Nat) : Int) ≤ 57 by omega)]; rfl
          · have h1 : ¬ 48 ≤ c.toNat := by omega
            simp only [isD, decide_eq_false h1, Bool.false_and]; rfl
          rintro _ rfl
          refine cnd_b (fun hd => ?_) fun hd => ?_
          · have hI2 := hI.step hc hd h46
            simp only [isD, Bool.and_eq_true, decide_eq_true_eq] at hd
            have e48 : (((c.toNat : Nat) : Int) = 48) ↔ c.toNat - 48 = 0 := by omega
            refine ⟨¬ (c.toNat - 48 = 0 ∧ st.nd = 0), cnd_eq (fun h0 => cnd_eq (fun hn => ?_) fun hn => fun q => hn (by omega)) fun h0 => fun q => h0 (e48.2 q.1), fun hq => ?_⟩
            · have hz : c.toNat - 48 = 0 ∧ st.nd = 0 := ⟨e48.1 h0, by omega⟩
              have hst : stepD st (c.toNat - 48) = ⟨st.m, st.tr, st.dot, true, st.nd, st.nm, st.dp - 1⟩ := by unfold stepD; rw [if_pos hz]
              rw [hst] at hI2
              have hb := hI.d0; have hb1 := hI.d1
              exact ⟨⟨st.m, st.tr, st.dot, true, st.nd, st.nm, st.dp - 1⟩, rfl, rfl, rfl, rfl, rfl, rfl, rfl, wr (by omega) (by omega), hI2⟩
            · have hnd := hI.nd
              have hnd1 : IntKind.i64.wrap ((st.nd : Int) + 1) = ((st.nd + 1 : Nat) : Int) := wr1 (by omega)
              rw [hnd1]
              refine ⟨fun a b g => ∃ st' : RS, stepD st (c.toNat - 48) = st' ∧ a = st'.m ∧ b = st'.tr ∧ g = st'.nm, cnd_dec (fun h19 => ?_) fun h19 => ?_, ?_⟩
              · have hst : stepD st (c.toNat - 48) = ⟨st.m * 10 + (c.toNat - 48), st.tr, st.dot, true, st.nd + 1, st.nm + 1, st.dp⟩ := by unfold stepD; rw [if_neg hq, if_pos (by omega)]
                have hm := hI2.lt64
                rw [hst] at hm
                have hm : st.m * 10 + (c.toNat - 48) < 10000000000000000000 := hm
                refine ⟨_, hst, ?_, rfl, wr1 (by omega)⟩
                rw [u8w (x := ((c.toNat : Nat) : Int) - 48) (by omega) (by omega), show ((c.toNat : Nat) : Int) - 48 = ((c.toNat - 48 : Nat) : Int) by omega, wrapU' (a := c.toNat - 48) (by omega), show ((st.m : Nat) : Int) * 10 = ((st.m * 10 : Nat) : Int) by omega, wrapU' (a := st.m * 10) (by omega), ← Int.natCast_add, wrapU' (by omega)]
              · have hst : stepD st (c.toNat - 48) = ⟨st.m, st.tr || decide (c.toNat - 48 ≠ 0), st.dot, true, st.nd + 1, st.nm, st.dp⟩ := by unfold stepD; rw [if_neg hq, if_neg (by omega)]
                refine ⟨fun t => t = (st.tr || decide (c.toNat - 48 ≠ 0)), cnd_ne (fun h => ?_) fun h => ?_, ?_⟩
                · rw [decide_eq_true (show c.toNat - 48 ≠ 0 from fun q => h (e48.2 q)), Bool.or_true]
                · rw [decide_eq_false (show ¬ c.toNat - 48 ≠ 0 from fun q => q (e48.1 h)), Bool.or_false]
                · rintro _ rfl
                  exact ⟨_, hst, rfl, rfl, rfl⟩
              · rintro _ _ _ ⟨st', hst, rfl, rfl, rfl⟩
                rw [hst] at hI2
                have e5 : st'.dot = st.dot ∧ st'.dig = true ∧ st'.nd = st.nd + 1 ∧ st'.dp = st.dp := by
                  rw [← hst]; unfold stepD; rw [if_neg hq]; split <;> exact ⟨rfl, rfl, rfl, rfl⟩
                exact ⟨st', rfl, rfl, rfl, e5.1.symm, e5.2.1.symm, by rw [e5.2.2.1], rfl, e5.2.2.2.symm, hI2⟩
          · refine ⟨fun x => x = false, cnd_f (by decide) (by decide), ?_⟩
            rintro _ rfl
            exact cnd_f rfl (exit (.inr ⟨h46, hd⟩))
      · rintro _ _ _ _ _ _ _ _ ⟨st', rfl, rfl, rfl, rfl, rfl, rfl, rfl, rfl, hI'⟩
        refine ⟨⟨st', k + 1, rfl, rfl, wr1 (by omega), rfl, rfl, rfl, rfl, rfl, rfl, hI'⟩, ?_⟩
        dsimp only
        rw [wr1 (by omega)]; omega
    · obtain ⟨rfl, e2⟩ := hI.fin (by omega)
      exact ⟨rfl, rfl, rfl, rfl, rfl, rfl, rfl, rfl, k, rfl, hI, e2⟩
  · rintro _ _ _ _ _ _ _ _ _ ⟨rfl, rfl, rfl, rfl, rfl, rfl, rfl, rfl, k, rfl, hI, hrk⟩
    rw [hdig]
    have b1 := hI.nm; have b2 := hI.nd; have b3 := hI.d0; have b4 := hI.d1; have b5 := hI.k
    refine cnd_f rfl ⟨fun d => d = (if stF.dot then stF.dp else (stF.nd : Int)), cnd_not (fun h => by rw [h]; rfl) fun h => by rw [h]; rfl, ?_⟩
    rintro dp hdp
    have hdpb : -(k : Int) ≤ dp ∧ dp ≤ k := by rw [hdp]; split <;> omega
    refine ⟨fun a b => a = (stF.nm : Int) ∧ b = dp, cnd_f (by decide) ⟨rfl, rfl⟩, ?_⟩
    rintro _ b ⟨rfl, rfl⟩
    have fine : ∀ e : Int, -100000 ≤ e → e ≤ 100000 → eVal rest = e → IntKind.i64.wrap (b + e) = b + eVal rest := fun e h1 h2 h3 => by rw [h3, wr (by omega) (by omega)]
    refine ⟨fun i u d => i = (l.length : Int) ∧ u = false ∧ d = b + eVal rest ∧ -100000 ≤ eVal rest ∧ eVal rest ≤ 100000, ?_, ?_⟩
    · rw [hsz]
      refine cnd_dec (fun hlt => ?_) fun hge => cnd_f (by decide) ?_
      · have hk : k < l.length := by omega
        have hdr : l.drop k = l[k] :: l.drop (k + 1) := List.drop_eq_getElem_cons hk
        rcases hrest with h0 | ⟨c, sg, ds, hE⟩
        · rw [hrk, hdr] at h0; cases h0
        have heq := hE.eq
        rw [hrk, hdr] at heq
        obtain ⟨hc, htl⟩ := List.cons.inj heq
        have hckk : l[k]? = some c := by rw [List.getElem?_eq_getElem hk, hc]
        have hlen : (l.drop (k + 1)).length = l.length - (k + 1) := List.length_drop
        rw [htl, List.length_append] at hlen
        have hdsn : 0 < ds.length := List.length_pos_iff.2 hE.ne
        have hsgn : sg.length ≤ 1 := by rcases hE.sg with e | e | e <;> subst e <;> simp
        have gat : ∀ q, (sg ++ ds)[q]? = l[k + 1 + q]? := fun q => by rw [← htl, List.getElem?_drop]
        refine ⟨by omega, hlt, c, by rw [Int.toNat_natCast, at', hckk], ok94' ?_⟩
        refine ⟨fun i u d => i = (l.length : Int) ∧ u = false ∧ d = b + eVal rest ∧ -100000 ≤ eVal rest ∧ eVal rest ≤ 100000, cnd_eq (fun _ => ?_) fun h => absurd ((low101 c).2 hE.e) h, fun _ _ _ h => h⟩
        rw [wr1 (k := k) (by omega)]
        refine cnd_dec (fun h => absurd h (by omega)) fun _ => ?_
        obtain ⟨c1, hc1⟩ : ∃ c1, (sg ++ ds)[0]? = some c1 := ⟨_, List.getElem?_eq_getElem (by rw [List.length_append]; omega)⟩
        refine ⟨by omega, by omega, c1, by rw [Int.toNat_natCast, at', ← hc1, gat], ?_⟩
        -- the sign
        have hdg0 : ∀ d ∈ ds, 48 ≤ d.toNat ∧ d.toNat ≤ 57 := fun d hd => by
          have := hE.dg d hd
          simpa only [isD, Bool.and_eq_true, decide_eq_true_eq] using this
        have hV : decV ds ≤ 9999 := by
          have h1 := decV_lt hdg0 ds.length (Nat.le_refl _)
          rw [List.take_length] at h1
          have h2 := Nat.pow_le_pow_right (n := 10) (by decide) hE.le
          have h3 : (10 : Nat) ^ 4 = 10000 := rfl
          omega
        have hev : eVal rest = (decV ds : Int) * (if sg = [45] then -1 else 1) := by rw [hE.eq]; exact eVal_eq hE.sg hdg0
        have c1d : sg = [] → 48 ≤ c1.toNat := fun e => by
          subst e
          exact (hdg0 c1 (List.mem_of_getElem? (by simpa using hc1))).1
        have c1s : ∀ x : UInt8, sg = [x] → c1 = x := fun x e => by
          subst e; simp at hc1; exact hc1.symm
        refine ⟨fun i e => i = ((k + 1 + sg.length : Nat) : Int) ∧ e = (if sg = [45] then -1 else 1), cnd_eq (fun h => ?_) fun h => ⟨fun i e => i = ((k + 1 + sg.length : Nat) : Int) ∧ e = (if sg = [45] then -1 else 1), cnd_eq (fun h2 => ?_) fun h2 => ?_, fun _ _ h => h⟩, ?_⟩
        · have hc43 : c1 = 43 := eqB.1 h
          rcases hE.sg with e | e | e
          · have := c1d e; rw [hc43] at this; exact absurd this (by decide)
          · rw [wr1 (by omega), e]; exact ⟨rfl, by decide⟩
          · have := c1s _ e; rw [hc43] at this; exact absurd this (by decide)
        · have hc45 : c1 = 45 := eqB.1 h2
          rcases hE.sg with e | e | e
          · have := c1d e; rw [hc45] at this; exact absurd this (by decide)
          · have := c1s _ e; rw [hc45] at this; exact absurd this (by decide)
          · rw [wr1 (by omega), e]; exact ⟨rfl, by decide⟩
        · rcases hE.sg with e | e | e
          · rw [e]; exact ⟨rfl, by decide⟩
          · exact absurd (eqB.2 (c1s _ e)) h
          · exact absurd (eqB.2 (c1s _ e)) h2
        rintro _ _ ⟨rfl, rfl⟩
        have dat : ∀ q, q < ds.length → ∃ d, ds[q]? = some d ∧ l[k + 1 + sg.length + q]? = some d ∧ 48 ≤ d.toNat ∧ d.toNat ≤ 57 := by
          intro q hq
          refine ⟨ds[q], List.getElem?_eq_getElem hq, ?_, hdg0 _ (List.getElem_mem hq)⟩
          rw [show k + 1 + sg.length + q = k + 1 + (sg.length + q) by omega, ← gat, List.getElem?_append_right (by omega), show sg.length + q - sg.length = q by omega, List.getElem?_eq_getElem hq]
        refine ⟨False, cnd_dec (fun h => absurd h (by omega)) fun _ => ?_, fun h => h.elim⟩
        obtain ⟨d0, _, hd0, r1, r2⟩ := dat 0 hdsn
        rw [Nat.add_zero] at hd0
        refine ⟨by omega, by omega, d0, by rw [Int.toNat_natCast, at', hd0], cnd_dec (fun h => absurd h (by omega)) fun _ => ⟨by omega, by omega, d0, by rw [Int.toNat_natCast, at', hd0], cnd_dec (fun h => absurd h (by omega)) fun _ => ?_⟩⟩
        refine ⟨fun i u e => i = (l.length : Int) ∧ u = false ∧ e = (decV ds : Int), ⟨fun i u e => ∃ q : Nat, q ≤ ds.length ∧ i = ((k + 1 + sg.length + q : Nat) : Int) ∧ u = false ∧ e = (decV (ds.take q) : Int), fun i _ _ => l.length - i.toNat, ⟨0, Nat.zero_le _, rfl, rfl, rfl⟩, ?_⟩, ?_⟩
        · rintro _ _ _ ⟨q, hq, rfl, rfl, rfl⟩
          by_cases hqd : q < ds.length
          · obtain ⟨d, hd1, hd2, r3, r4⟩ := dat q hqd
            have hlt2 : ((k + 1 + sg.length + q : Nat) : Int) < (l.length : Int) := by omega
            have hat : s[Int.toNat ((k + 1 + sg.length + q : Nat) : Int)]? = some d := by rw [Int.toNat_natCast, at', hd2]
            refine ⟨True, ⟨fun _ => False, cnd_dec (fun _ => ⟨by omega, hlt2, d, hat, cnd_dec (fun _ => ⟨by omega, hlt2, d, hat, cnd_dec (fun _ => trivial) fun h => absurd (show ((d.toNat : Nat) : Int) ≤ 57 by omega) h⟩) fun h => absurd (show (48 : Int) ≤ ((d.toNat : Nat) : Int) by omega) h⟩) fun h => absurd hlt2 h, fun _ h => h.elim⟩, fun _ => ?_⟩
            have hvq := decV_lt hdg0 q (by omega)
            have hvb : decV (ds.take q) < 1000 := by
              have h2 := Nat.pow_le_pow_right (n := 10) (by decide) (show q ≤ 3 by have := hE.le; omega)
              have h3 : (10 : Nat) ^ 3 = 1000 := rfl
              omega
            refine ⟨fun u e => u = false ∧ e = (decV (ds.take (q + 1)) : Int), ⟨by omega, hlt2, d, hat, cnd_eq (fun h => absurd h (by omega)) fun _ => ⟨fun e => e = (decV (ds.take (q + 1)) : Int), cnd_dec (fun _ => ⟨by omega, hlt2, d, hat, ?_⟩) fun h => absurd (show ((decV (ds.take q) : Nat) : Int) < 10000 by omega) h, fun _ h => ⟨rfl, h⟩⟩⟩, ?_⟩
            · rw [decV_take hd1, wr (x := ((decV (ds.take q) : Nat) : Int) * 10) (by omega) (by omega), wr (x := ((d.toNat : Nat) : Int)) (by omega) (by omega), wr (x := ((decV (ds.take q) : Nat) : Int) * 10 + ((d.toNat : Nat) : Int)) (by omega) (by omega), wr (by omega) (by omega)]
              omega
            · rintro _ _ ⟨rfl, rfl⟩
              refine ⟨⟨q + 1, by omega, wr1 (by omega), rfl, rfl⟩, ?_⟩
              dsimp only
              rw [wr1 (by omega)]; omega
          · have hqe : q = ds.length := by omega
            have hge2 : ¬ ((k + 1 + sg.length + q : Nat) : Int) < (l.length : Int) := by omega
            refine ⟨False, ⟨fun _ => False, cnd_dec (fun h => absurd h hge2) fun _ => ⟨by omega, rfl, by rw [hqe, List.take_length]⟩, fun _ h => h.elim⟩, fun h => h.elim⟩
        · rintro _ _ _ ⟨rfl, rfl, rfl⟩
          have hb1 : -9999 ≤ (decV ds : Int) * (if sg = [45] then -1 else 1) ∧ (decV ds : Int) * (if sg = [45] then -1 else 1) ≤ 9999 := by split <;> omega
          rw [wr (x := (decV ds : Int) * (if sg = [45] then -1 else 1)) (by omega) (by omega)]
          exact ⟨rfl, rfl, fine _ (by omega) (by omega) hev, by omega, by omega⟩
      · have : k = l.length := by omega
        subst this
        have hr0 : rest = [] := by rw [hrk]; exact List.drop_length
        exact ⟨rfl, rfl, by rw [hr0]; show b = b + 0; omega, by rw [hr0]; decide, by rw [hr0]; decide⟩
    · rintro _ _ _ ⟨rfl, rfl, rfl, q1, q2⟩
      refine ⟨fun x => x = expV stF rest, cnd_ne (fun h => ?_) fun h => ?_, ?_⟩
      · unfold expV; rw [if_pos (by omega), ← hdp, wr (by omega) (by omega)]
      · unfold expV; rw [if_neg (by omega)]
      · rintro _ rfl
        exact ⟨True, cnd_f rfl trivial, fun _ => r⟩
end Go.Proofs.YtfjflbapojgbhaaGreatDoor.N

/- What is told of special texts: a number's text is none; exact answers by floats. Conditions: none. -/
namespace Go.Proofs.YtfjflbapojgbhaaGreatDoor.N
open Go.X Go.Proofs.YtfjflbapojgbhaaGreatDoor
set_option maxRecDepth 100000
set_option maxHeartbeats 1000000

theorem extB (s : ByteArray) (a b : Nat) : (s.extract a b).data.toList = (s.data.toList.take b).drop a := by
  rw [ByteArray.data_extract, Array.toList_extract]
  simp [List.drop_take]
theorem ok79' {s : ByteArray} {stF : RS} {rest : List UInt8} {R : Int → Int → Bool → Bool → Bool → Int → Bool → Prop} (h0 : 0 < s.size) (hs : s.size < 100000) (hc : ∀ c ∈ s.data.toList, c ≠ 120 ∧ c ≠ 88 ∧ c ≠ 95)
    (hsc : scan RS0 (s.data.toList.drop (sgnOf s.data.toList).2) = (stF, rest)) (hdig : stF.dig = true) (hrest : rest = [] ∨ ∃ c sg ds, Expo rest c sg ds)
    (r : R stF.m (expV stF rest) (sgnOf s.data.toList).1 stF.tr false s.data.toList.length true) : Ok79 s R := by
  refine ok79b h0 hs (fun c h => ⟨(hc c h).1, (hc c h).2.1⟩) (readTail hs (fun c h => (hc c h).2.2) ?_ hsc hdig hrest r)
  have hl : 1 ≤ s.data.toList.length := h0
  unfold sgnOf
  split
  · split
    · exact hl
    · split
      · exact hl
      · exact Nat.zero_le _
  · exact Nat.zero_le _
theorem isD_iff {c : UInt8} : isD c = true ↔ 48 ≤ c.toNat ∧ c.toNat ≤ 57 := by simp [isD]
/-- Nothing of a word that a digit stands ahead of. -/
theorem ok114' {s p : ByteArray} {R : Int → Prop} (hs : ∀ c r, s.data.toList = c :: r → isD c = true) (hp : ∃ c r, p.data.toList = c :: r ∧ 58 ≤ c.toNat) (hsz : s.size < 100000) (r : R 0) : Ok114 s p R := by
  apply ok114
  unfold T114
  obtain ⟨q, pr, hpl, hq⟩ := hp
  have hps : 0 < p.size := by show 0 < p.data.toList.length; rw [hpl]; simp
  refine ⟨fun i => i = 0, fun _ => 0, rfl, ?_⟩
  rintro _ rfl
  cases hl : s.data.toList with
  | nil =>
    have h0 : s.size = 0 := by show s.data.toList.length = 0; rw [hl]; rfl
    have e : (if (((s.size : Nat)) : Int) < ((p.size : Nat) : Int) then ((s.size : Nat) : Int) else ((p.size : Nat) : Int)) = 0 := by rw [h0]; split <;> omega
    rw [e]
    exact cnd_f (by decide) r
  | cons c rest =>
    have h0 : 0 < s.size := by show 0 < s.data.toList.length; rw [hl]; simp
    have hd := isD_iff.1 (hs c rest hl)
    refine cnd_dec (fun _ => ?_) fun h => absurd h (by split <;> omega)
    refine ⟨by decide, by omega, c, by rw [getB, hl]; rfl, fun x => x = ((c.toNat : Nat) : Int), cnd_dec (fun h => absurd h (by omega)) fun _ => rfl, ?_⟩
    rintro _ rfl
    refine ⟨by decide, by omega, q, by rw [getB, hpl]; rfl, cnd_ne (fun _ => r) fun h => absurd h (by omega)⟩
/-- A number's text: a digit, or a sign and a digit. -/
def numHead (l : List UInt8) : Prop := ∃ c r, l = c :: r ∧ (isD c = true ∨ ((c = 43 ∨ c = 45) ∧ ∃ d r', r = d :: r' ∧ isD d = true))
theorem ok78' {s : ByteArray} {R : Nat → Int → Bool → Prop} (hs : s.size < 100000) (h : numHead s.data.toList) (r : R 0 0 false) : Ok78 s R := by
  apply ok78
  unfold T78
  obtain ⟨c, l, hl, hc⟩ := h
  have h0 : 0 < s.size := by show 0 < s.data.toList.length; rw [hl]; simp
  refine cnd_eq (fun h => absurd h (by omega)) fun _ => ⟨by decide, by omega, c, by rw [getB, hl]; rfl, True, ?_, fun _ => r⟩
  refine ⟨fun s2 _ _ => s2 = s.extract 1 s.size ∧ ∃ d r', l = d :: r' ∧ isD d = true, ⟨fun x => x = (decide (c = 43) || decide (c = 45)), cnd_eq (fun h => ?_) fun h => ?_, ?_⟩, ?_⟩
  · have : c = 43 := eqB.1 h
    subst this; rfl
  · by_cases h2 : c = 45
    · subst h2; rfl
    · have h1 : c ≠ 43 := fun e => h (eqB.2 e)
      rw [decide_eq_false h1, decide_eq_false h2]
      show (((c.toNat : Nat) : Int) == 45) = false
      rw [beq_eq_false_iff_ne]; exact fun e => h2 (eqB.1 e)
  · rintro _ rfl
    refine cnd_b (fun hb => ?_) fun hb => ?_
    · simp only [Bool.or_eq_true, decide_eq_true_eq] at hb
      have hd : ∃ d r', l = d :: r' ∧ isD d = true := by
        rcases hc with hc | hc
        · rcases hb with rfl | rfl <;> simp [isD] at hc
        · exact hc.2
      refine ⟨by decide, by omega, c, by rw [getB, hl]; rfl, fun _ => True, cnd_eq (fun _ => trivial) fun _ => trivial, fun _ _ => ⟨by decide, by omega, rfl, hd⟩⟩
    · simp only [Bool.or_eq_false_iff, decide_eq_false_iff_not] at hb
      have hd : 48 ≤ c.toNat ∧ c.toNat ≤ 57 := by
        rcases hc with hc | hc
        · exact isD_iff.1 hc
        · rcases hc.1 with e | e
          · exact absurd e hb.1
          · exact absurd e hb.2
      refine ⟨fun x => x = false, cnd_eq (fun h => absurd h (by omega)) fun _ => ?_, ?_⟩
      · dsimp only; rw [beq_eq_false_iff_ne]; omega
      rintro _ rfl
      refine cnd_f rfl ⟨fun x => x = false, cnd_eq (fun h => absurd h (by omega)) fun _ => ?_, ?_⟩
      · dsimp only; rw [beq_eq_false_iff_ne]; omega
      rintro _ rfl
      exact cnd_f rfl trivial
  · rintro _ sg ns ⟨rfl, d, r', hdl, hd⟩
    have el : (s.extract 1 s.size).data.toList = l := by
      rw [extB, hl, List.take_of_length_le (by rw [← hl]; exact Nat.le_refl _)]; rfl
    refine ok114' (fun c r e => ?_) ⟨105, _, rfl, by decide⟩ ?_ ?_
    · rw [el, hdl] at e; cases e; exact hd
    · show (s.extract 1 s.size).data.toList.length < _
      rw [el]
      have : s.size = l.length + 1 := by show s.data.toList.length = _; rw [hl]; rfl
      omega
    refine ⟨fun x => x = 0, cnd_dec (fun h => absurd h (by decide)) fun _ => rfl, ?_⟩
    rintro _ rfl
    exact cnd_f (by decide) (cnd_f (by decide) trivial)
end Go.Proofs.YtfjflbapojgbhaaGreatDoor.N

/- atof64exact as a function. Conditions: none. -/
namespace Go.Proofs.YtfjflbapojgbhaaGreatDoor.N
open Go.X Go.Proofs.YtfjflbapojgbhaaGreatDoor
set_option maxRecDepth 100000
set_option maxHeartbeats 1000000

def numOK (d : Ieee.Datum) : Bool := match d with | .number _ n _ => decide (n ≠ 0) | _ => false
theorem tF_num : ∀ k : Fin 23, numOK (F64.read (tF.getD k.val 0)) = true := by decide +kernel
theorem tF_at {k : Nat} (h : k < 23) : tF[k]? = some (tF.getD k 0) ∧ ∃ s n j, F64.read (tF.getD k 0) = .number s n j ∧ n ≠ 0 := by
  have hl : k < tF.length := h
  refine ⟨by rw [List.getD_eq_getElem?_getD, List.getElem?_eq_getElem hl]; rfl, ?_⟩
  have := tF_num ⟨k, h⟩
  unfold numOK at this
  split at this
  · rename_i s n j e; exact ⟨s, n, j, e, by simpa using this⟩
  · cases this
theorem nn_int (n : Int) : isNaN (FloatKind.f64.nearest n) = false := by
  unfold FloatKind.nearest FloatKind.encode
  exact nn_write rfl
theorem nn_negF {x : Nat} (h : isNaN x = false) : isNaN (Op.negFloat .f64 x) = false := by
  have := nan_neg x
  unfold negM at this
  rw [this]; exact h
theorem ok89' {m : Nat} {e : Int} {neg : Bool} {R : Nat → Bool → Prop} (hm : m < 18446744073709551616) (he1 : -100000 < e) (he2 : e < 100000) (r : R (exactF m e neg).1 (exactF m e neg).2) : Ok89 m e neg R := by
  apply ok89
  unfold T89
  have h52 : (2 : Nat) ^ 52 = 4503599627370496 := by decide
  rw [show min (Int.toNat 52) 64 = 52 from by decide, shr, h52]
  unfold exactF at r
  refine ⟨by decide, cnd_ne (fun h => ?_) fun h => ?_⟩
  · rw [if_pos (by omega)] at r; exact r
  rw [if_neg (by omega)] at r
  simp only [] at r
  have hn0 : isNaN (FloatKind.f64.nearest (m : Int)) = false := nn_int _
  refine ⟨fun f => f = (if neg then Op.negFloat .f64 (FloatKind.f64.nearest (m : Int)) else FloatKind.f64.nearest (m : Int)), cnd_b (fun hb => by rw [hb, if_pos rfl]) (fun hb => by rw [hb, if_neg (by decide)]), ?_⟩
  intro f hf
  have hfn : isNaN f = false := by
    rw [hf]; split
    · exact nn_negF hn0
    · exact hn0
  rw [← hf] at r
  refine ⟨¬ (e = 0 ∨ (0 < e ∧ e ≤ 37) ∨ (-22 ≤ e ∧ e < 0)), cnd_eq (fun h => ?_) fun h0 => ?_, fun hJ => ?_⟩
  · rw [if_pos h] at r; exact r
  · rw [if_neg h0] at r
    have dv : -22 ≤ e → e < 0 → ¬ (0 < e ∧ e ≤ 37) → 0 ≤ IntKind.i64.wrap (0 - e) ∧ IntKind.i64.wrap (0 - e) < ((23 : Nat) : Int) ∧ ∃ x : Nat, tF[Int.toNat (IntKind.i64.wrap (0 - e)) * 1]? = some x ∧ ∀ r3 : Nat, FRes .f64 f x (FloatKind.f64.format.div f x) r3 → R r3 true := by
      intro q1 q2 q3
      rw [if_neg q3, if_pos ⟨q1, q2⟩] at r
      have ew : IntKind.i64.wrap (0 - e) = -e := by rw [wr (by omega) (by omega)]; omega
      rw [ew, Nat.mul_one]
      obtain ⟨t1, s, n, j, t2, t3⟩ := tF_at (k := (-e).toNat) (by omega)
      refine ⟨by omega, by omega, _, t1, fun r3 hr3 => ?_⟩
      have hd := (div_some hfn t2 t3).1
      rw [show FloatKind.f64.format.div f (tF.getD (-e).toNat 0) = some (divM f (tF.getD (-e).toNat 0)) from hd] at hr3
      have : r3 = divM f (tF.getD (-e).toNat 0) := hr3
      rw [this]; exact r
    refine cnd_dec (fun hp => cnd_dec (fun h37 => ?_) fun h37 => cnd_dec (fun h => absurd h (by omega)) fun _ => by omega) fun hp => cnd_dec (fun hneg => cnd_dec (fun h22 => dv h22 hneg (by omega)) fun _ => by omega) fun _ => by omega
    rw [if_pos ⟨hp, h37⟩] at r
    refine ⟨fun e2 f2 => e2 = (if e > 22 then 22 else e) ∧ f2 = (if e > 22 then mulM f (tF.getD (e - 22).toNat 0) else f), cnd_dec (fun h => ?_) fun h => ⟨by rw [if_neg h], by rw [if_neg h]⟩, ?_⟩
    · have ew : IntKind.i64.wrap (e - 22) = e - 22 := wr (by omega) (by omega)
      rw [ew, Nat.mul_one]
      obtain ⟨t1, s, n, j, t2, t3⟩ := tF_at (k := (e - 22).toNat) (by omega)
      refine ⟨by omega, by omega, _, t1, fun r3 hr3 => ?_⟩
      have hd := (mul_some hfn t2 t3).1
      rw [show FloatKind.f64.format.mul f (tF.getD (e - 22).toNat 0) = some (mulM f (tF.getD (e - 22).toNat 0)) from hd] at hr3
      have : r3 = mulM f (tF.getD (e - 22).toNat 0) := hr3
      rw [this, if_pos h, if_pos h]; exact ⟨rfl, rfl⟩
    rintro e2 f2 ⟨h1, h2⟩
    have hf2 : isNaN f2 = false := by
      rw [h2]; split
      · obtain ⟨t1, s, n, j, t2, t3⟩ := tF_at (k := (e - 22).toNat) (by omega)
        exact (mul_some hfn t2 t3).2
      · exact hfn
    have he : 0 ≤ e2 ∧ e2 < 23 := by rw [h1]; split <;> omega
    rw [← h1, ← h2] at r
    refine cnd_b (fun hg => ?_) fun hg => cnd_b (fun hl => ?_) fun hl => ?_
    · rw [if_pos (by simpa using hg)] at r; exact r
    · rw [if_neg (by simpa using hg), if_pos (by simpa using hl)] at r; exact r
    · rw [if_neg (by simpa using hg), if_neg (by simpa using hl)] at r
      obtain ⟨t1, s, n, j, t2, t3⟩ := tF_at (k := e2.toNat) (by omega)
      rw [Nat.mul_one]
      refine ⟨by omega, by omega, _, t1, fun r3 hr3 => ?_⟩
      have hd := (mul_some hf2 t2 t3).1
      rw [show FloatKind.f64.format.mul f2 (tF.getD e2.toNat 0) = some (mulM f2 (tF.getD e2.toNat 0)) from hd] at hr3
      have : r3 = mulM f2 (tF.getD e2.toNat 0) := hr3
      rw [this]; exact r
  · rw [if_neg (by omega), if_neg (by omega), if_neg (by omega)] at r
    exact r
end Go.Proofs.YtfjflbapojgbhaaGreatDoor.N

/- ParseFloat of a number's text of at most 19 digits that count, as a function. Conditions: none. -/
namespace Go.Proofs.YtfjflbapojgbhaaGreatDoor.N
open Go.X Go.Proofs.YtfjflbapojgbhaaGreatDoor
set_option maxRecDepth 100000
set_option maxHeartbeats 1000000

def sgnN (ng : Bool) : Nat := if ng then 9223372036854775808 else 0
def atofV (m : Nat) (e : Int) (ng : Bool) : Nat × Option Int :=
  if m = 0 then ((bits .or .u64 (sgnN ng : Int) 0).toNat, none)
  else if e > 310 then ((bits .or .u64 (sgnN ng : Int) 9218868437227405312).toNat, some 1)
  else if e < -345 then ((bits .or .u64 (sgnN ng : Int) 0).toNat, none)
  else if (exactF m e ng).2 then ((exactF m e ng).1, none)
  else parse64 m e (sgnN ng)
/-- A number's text, and what the scan makes of it. -/
structure Txt (s : ByteArray) (st : RS) (rest : List UInt8) : Prop where
  sz : s.size < 100000
  hd : numHead s.data.toList
  ch : ∀ c ∈ s.data.toList, c ≠ 120 ∧ c ≠ 88 ∧ c ≠ 95
  sc : scan RS0 (s.data.toList.drop (sgnOf s.data.toList).2) = (st, rest)
  dig : st.dig = true
  rest : rest = [] ∨ ∃ c sg ds, Expo rest c sg ds
theorem scan_lt {l : List UInt8} {st : RS} {rest : List UInt8} : ∀ {a : RS}, a.nm ≤ 19 → a.m < 10 ^ a.nm → scan a l = (st, rest) → st.m < 10000000000000000000 := by
  induction l with
  | nil =>
    intro a h1 h2 h
    simp only [scan, Prod.mk.injEq] at h
    rw [← h.1]
    have := Nat.pow_le_pow_right (n := 10) (by decide) h1
    omega
  | cons c r ih =>
    intro a h1 h2 h
    have stop : a.m < 10000000000000000000 := by
      have := Nat.pow_le_pow_right (n := 10) (by decide) h1
      omega
    simp only [scan] at h
    split at h
    · split at h
      · simp only [Prod.mk.injEq] at h; rw [← h.1]; exact stop
      · exact ih (a := dotS a) h1 h2 h
    · split at h
      · rename_i hd
        have hd := isD_iff.1 hd
        refine ih (a := stepD a (c.toNat - 48)) ?_ ?_ h
        · unfold stepD; split
          · exact h1
          · split
            · show a.nm + 1 ≤ 19; omega
            · exact h1
        · unfold stepD; split
          · exact h2
          · split
            · show a.m * 10 + (c.toNat - 48) < 10 ^ (a.nm + 1); rw [Nat.pow_succ]; omega
            · exact h2
      · simp only [Prod.mk.injEq] at h; rw [← h.1]; exact stop
theorem ok55' {s : ByteArray} {st : RS} {rest : List UInt8} {R : Nat → Int → Option Int → Prop} (h : Txt s st rest) (ht : st.tr = false)
    (r : R (atofV st.m (expV st rest) (sgnOf s.data.toList).1).1 s.size (atofV st.m (expV st rest) (sgnOf s.data.toList).1).2) : Ok55 s R := by
  apply ok55
  unfold T55
  have h0 : 0 < s.size := by
    obtain ⟨c, l, hl, _⟩ := h.hd
    show 0 < s.data.toList.length
    rw [hl]; simp
  refine ok78' h.sz h.hd (cnd_f rfl (ok79' h0 h.sz h.ch h.sc h.dig h.rest ?_))
  have hm := scan_lt (a := RS0) (by decide) (by decide) h.sc
  rw [ht]
  generalize expV st rest = e at *
  generalize (sgnOf s.data.toList).1 = ng at *
  have esz : ((s.data.toList.length : Nat) : Int) = (s.size : Int) := rfl
  rw [esz]
  refine cnd_f rfl (cnd_f rfl ⟨False, cnd_t rfl (ok87' ?_), fun h => h⟩)
  have esg : IntKind.u64.wrap (((if ng = true then 1 else 0 : Nat) : Int) * 2 ^ min (Int.toNat 63) 64) = (sgnN ng : Int) := by
    cases ng <;> decide
  rw [esg]
  unfold atofV at r
  refine ⟨by decide, cnd_eq (fun hz => ?_) fun hz => ?_⟩
  · rw [if_pos (by omega)] at r
    exact callE_of (from88 _) ⟨_, rfl, r⟩
  rw [if_neg (by omega)] at r
  refine cnd_dec (fun hb => ?_) fun hb => ?_
  · rw [if_pos hb] at r
    exact callE_of (from88 _) ⟨_, rfl, r⟩
  rw [if_neg hb] at r
  refine cnd_dec (fun hc => ?_) fun hc => ?_
  · rw [if_pos hc] at r
    exact callE_of (from88 _) ⟨_, rfl, r⟩
  rw [if_neg hc] at r
  refine ⟨(exactF st.m e ng).2 = false, cnd_t rfl (ok89' (by omega) (by omega) (by omega) (cnd_b (fun hx => ?_) fun hx => hx)), fun hx => ?_⟩
  · rw [if_pos hx] at r; exact r
  · rw [if_neg (by rw [hx]; decide)] at r
    refine ok90' (by omega) (by omega) (by omega) (by omega) ⟨fun he => cnd_t rfl ?_, fun c he => cnd_t rfl ?_⟩
    · rw [he] at r; exact r
    · rw [he] at r; exact r
theorem ok37' {s : ByteArray} {st : RS} {rest : List UInt8} {R : Nat → Option Int → Prop} (h : Txt s st rest) (ht : st.tr = false)
    (r : R (atofV st.m (expV st rest) (sgnOf s.data.toList).1).1 (atofV st.m (expV st rest) (sgnOf s.data.toList).1).2) : Ok37 s 64 R := by
  apply ok37
  unfold T37
  apply ok43
  unfold T43
  refine cnd_f (by decide) (ok55' h ht ?_)
  generalize atofV st.m (expV st rest) (sgnOf s.data.toList).1 = v at *
  obtain ⟨x, e⟩ := v
  have r : R x e := r
  show (e = none → _) ∧ ∀ c : Int, e = some c → _
  refine ⟨fun he => ?_, fun c he => ?_⟩
  · subst he
    exact ⟨fun _ => cnd_f (by simp) r, fun c hc => by cases hc⟩
  · subst he
    exact ⟨fun hc => (by cases hc), fun c2 hc => cnd_f (by simp) (by rw [← hc]; exact r)⟩
end Go.Proofs.YtfjflbapojgbhaaGreatDoor.N
