/- Classes, order, sums and texts of floats, as functions. Conditions: none. -/
import Derived.Test.YtfjflbapojgbhaaGreatDoorTTop
import Derived.Test.YtfjflbapojgbhaaGreatDoorWAtof
namespace Go.Proofs.YtfjflbapojgbhaaGreatDoor.N
open Go.X Go.Proofs.YtfjflbapojgbhaaGreatDoor
set_option maxRecDepth 100000
set_option maxHeartbeats 1000000

theorem ok12' {a b : Nat} {R : Bool → Prop} (r : R (a == b)) : Ok12 a b R := by
  apply ok12; unfold T12
  refine callE_of (bits32 _) ⟨_, rfl, callE_of (bits32 _) ⟨_, rfl, ?_⟩⟩
  have : ((a : Int) == (b : Int)) = (a == b) := by rw [Bool.eq_iff_iff]; simp; omega
  rw [this]; exact r
/-- An order with NaN last. -/
def lessW (a b : Nat) : Bool := if isNaN a then false else if isNaN b then true else F64.order a b == some .lt
theorem ok14' {a b : Nat} {R : Bool → Prop} (r : R (lessW a b)) : Ok14 a b R := by
  apply ok14; unfold T14
  rw [order_ne, order_ne, order_eq]
  refine cnd_b (fun ha => ?_) fun ha => cnd_b (fun hb => ?_) fun hb => ?_
  · simpa [lessW, ha] using r
  · simpa [lessW, ha, hb] using r
  · simpa [lessW, ha, hb] using r
def goodM (x : Nat) : Bool := (F64.order x 0 == some .gt) || (F64.order x 0 == some .eq)
theorem ok18' {a : Nat} {R : Bool → Prop} (r : R (goodM a)) : Ok18 a R := by apply ok18; exact r
theorem ok30' {R : Nat → Prop} (r : R nanC) : Ok30 R := by
  apply ok30; exact callE_of (from13 _) ⟨_, rfl, r⟩
abbrev MAXF : Nat := 9218868437227405311
def isInf (x : Nat) : Bool := F64.order x MAXF == some .gt
theorem ok29p {x : Nat} {R : Bool → Prop} (r : R (isInf x)) : Ok29 x 1 R := by
  apply ok29; unfold T29
  refine ⟨fun y => y = x, cnd_f (by decide) ⟨fun y => y = x, cnd_f (by decide) rfl, fun _ h => h⟩, ?_⟩
  rintro _ rfl; exact r
theorem ok29n {x : Nat} {R : Bool → Prop} (r : R (isInf (negM x))) : Ok29 x (-1) R := by
  apply ok29; unfold T29
  refine ⟨fun y => y = negM x, cnd_f (by decide) ⟨fun y => y = negM x, cnd_t (by decide) rfl, fun _ h => h⟩, ?_⟩
  rintro _ rfl; exact r
theorem fin_of {x : Nat} (hn : isNaN x = false) (hp : isInf x = false) (hm : isInf (negM x) = false) : exOf x ≠ 2047 := by
  intro h
  have hr : x % 2 ^ 63 ≥ 2047 * 2 ^ 52 := by
    have a1 : (2 : Nat) ^ 63 = 9223372036854775808 := by decide
    have a2 : 2047 * (2 : Nat) ^ 52 = 9218868437227405312 := by decide
    rw [a1, a2]; unfold exOf at h; omega
  have key : ∀ y : Nat, F64.read y = .infinity false → isInf y = true := by
    intro y hy
    unfold isInf Ieee.Format.order
    rw [hy]; decide
  have hnr := read_neg x
  rcases read_cases hn with ⟨s, e⟩ | ⟨s, m, i, e⟩
  · cases s
    · rw [key x e] at hp; cases hp
    · rw [e] at hnr
      rw [key (negM x) hnr] at hm; cases hm
  · unfold Ieee.Format.read at e
    simp only [f_sign, f_binade, f_inf] at e
    rw [if_neg (by omega), if_neg (by omega)] at e
    split at e <;> cases e
theorem strOf_list (xs : List Int) : (strOf xs).data.toList = xs.map fun n => UInt8.ofNat n.toNat := by
  have gen : ∀ (xs : List Int) (b : ByteArray), (xs.foldl (fun r n => r.push (UInt8.ofNat n.toNat)) b).data.toList = b.data.toList ++ xs.map fun n => UInt8.ofNat n.toNat := by
    intro xs
    induction xs with
    | nil => intro b; simp
    | cons x xs ih => intro b; rw [List.foldl_cons, ih]; simp [ByteArray.push]
  have := gen xs ByteArray.empty
  unfold strOf
  rw [this]; rfl
def okC (v : Int) : Prop := 0 ≤ v ∧ v < 128
instance decC (v : Int) : Decidable (okC v) := by unfold okC; infer_instance
theorem dgL_ok (d n : Nat) : ∀ v ∈ dgL d n, okC v := by
  intro v hv
  simp only [dgL, List.mem_map, List.mem_range] at hv
  obtain ⟨t, _, rfl⟩ := hv
  unfold okC; omega
theorem expoL_ok {x : Int} (h : x.natAbs < 1000) : (∀ v ∈ expoL x, okC v) ∧ (expoL x).length ≤ 4 := by
  unfold expoL
  simp only []
  refine ⟨fun v hv => ?_, ?_⟩
  · simp only [List.mem_cons] at hv
    rcases hv with rfl | hv
    · unfold okC; split <;> decide
    · split at hv
      · simp at hv; unfold okC; omega
      · split at hv
        · simp at hv; unfold okC; omega
        · simp at hv; unfold okC; omega
  · simp only [List.length_cons]
    split
    · simp
    · split <;> simp
theorem fmtG_ok {neg : Bool} {L : List Int} {dp : Int} (hL : ∀ v ∈ L, okC v) (hl : L.length ≤ 20) (hd : (dp - 1).natAbs < 1000) : (∀ v ∈ fmtG neg L dp, okC v) ∧ (fmtG neg L dp).length ≤ 100 := by
  have hs : (∀ v ∈ signL neg, okC v) ∧ (signL neg).length ≤ 1 := by cases neg <;> simp [signL, okC]
  have he : (∀ v ∈ expoL (if L = [] then 0 else dp - 1), okC v) ∧ (expoL (if L = [] then 0 else dp - 1)).length ≤ 4 := expoL_ok (by split <;> omega)
  have c48 : okC 48 := by decide
  unfold fmtG
  have main : (∀ v ∈ (if dp - 1 < -4 ∨ 6 ≤ dp - 1 then eForm L dp else fForm L dp), okC v) ∧ (if dp - 1 < -4 ∨ 6 ≤ dp - 1 then eForm L dp else fForm L dp).length ≤ 90 := by
    split
    · unfold eForm
      refine ⟨fun v hv => ?_, ?_⟩
      · simp only [List.mem_append] at hv
        rcases hv with ((hv | hv) | hv) | hv
        · split at hv
          · simp at hv; subst hv; decide
          · exact hL v (List.mem_of_mem_take hv)
        · split at hv
          · simp only [List.mem_cons] at hv
            rcases hv with rfl | hv
            · decide
            · exact hL v (List.mem_of_mem_drop hv)
          · simp at hv
        · simp at hv; subst hv; decide
        · exact he.1 v hv
      · have a1 : (if L = [] then [48] else List.take 1 L).length ≤ 1 := by split <;> simp <;> omega
        have a2 : (if 1 < L.length then 46 :: List.drop 1 L else []).length ≤ 21 := by split <;> simp <;> omega
        have a3 := he.2
        simp only [List.length_append, List.length_cons, List.length_nil]
        omega
    · rename_i hE
      unfold fForm
      refine ⟨fun v hv => ?_, ?_⟩
      · simp only [List.mem_append] at hv
        rcases hv with hv | hv
        · split at hv
          · simp only [List.mem_append] at hv
            rcases hv with hv | hv
            · exact hL v (List.mem_of_mem_take hv)
            · rw [List.eq_of_mem_replicate hv]; exact c48
          · simp at hv; subst hv; decide
        · split at hv
          · simp only [List.mem_cons, List.mem_append] at hv
            rcases hv with rfl | hv | hv
            · decide
            · rw [List.eq_of_mem_replicate hv]; exact c48
            · exact hL v (List.mem_of_mem_drop hv)
          · simp at hv
      · have a1 : (if 0 < dp then List.take dp.toNat L ++ List.replicate (dp.toNat - L.length) 48 else [48]).length ≤ 40 := by
          split
          · simp only [List.length_append, List.length_take, List.length_replicate]; omega
          · simp
        have a2 : (if dp < (L.length : Int) then 46 :: (List.replicate (-dp).toNat 48 ++ List.drop dp.toNat L) else []).length ≤ 50 := by
          split
          · simp only [List.length_cons, List.length_append, List.length_drop, List.length_replicate]; omega
          · simp
        rw [List.length_append]; omega
  refine ⟨fun v hv => ?_, ?_⟩
  · rcases List.mem_append.1 hv with hv | hv
    · exact hs.1 v hv
    · exact main.1 v hv
  · rw [List.length_append]; have := main.2; have := hs.2; omega
theorem LOf_ok (f : Nat) : (∀ v ∈ LOf f, okC v) ∧ (LOf f).length ≤ 20 := by
  refine ⟨fun v hv => dgL_ok _ _ v (List.mem_of_mem_take hv), ?_⟩
  have := ndg_le (short_lt (mmOf f) (eeOf f))
  unfold LOf
  rw [List.length_take, dgL_len]
  show min _ (ndg (short (mmOf f) (eeOf f)).1) ≤ 20
  omega
theorem txtF_ok {f : Nat} (hx : exOf f ≠ 2047) : (∀ v ∈ txtF f, okC v) ∧ (txtF f).length ≤ 100 := by
  unfold txtF
  split
  · exact fmtG_ok (by simp) (by simp) (by decide)
  · rename_i h0
    obtain ⟨h1, h2⟩ := LOf_ok f
    have hp := p_of (mt_of hx h0).1
    have hn := ndg_le (short_lt (mmOf f) (eeOf f))
    have hn2 : ndg (dOf f) ≤ 20 := hn
    refine fmtG_ok h1 h2 ?_
    unfold dpOf pOf; omega
/-- A point or an exponent? -/
def hasDE (l : List UInt8) : Bool := Lib.containsAny l [46, 101]
def textM (x : Nat) : ByteArray :=
  if isNaN x then ⟨#[78, 97, 78]⟩ else if isInf x then ⟨#[73, 78, 70]⟩ else if isInf (negM x) then ⟨#[45, 73, 78, 70]⟩
  else if hasDE (strOf (txtF x)).data.toList then strOf (txtF x) else strOf (txtF x) ++ ⟨#[46, 48]⟩
theorem txt_bytes {f : Nat} (hx : exOf f ≠ 2047) : (strOf (txtF f)).size ≤ 100 ∧ ∀ (j : Nat) b, (strOf (txtF f)).data.toList[j]? = some b → b.toNat < 128 := by
  obtain ⟨h1, h2⟩ := txtF_ok hx
  have e : (strOf (txtF f)).size = (txtF f).length := by
    show (strOf (txtF f)).data.toList.length = _
    rw [strOf_list, List.length_map]
  refine ⟨by omega, fun j b hb => ?_⟩
  rw [strOf_list, List.getElem?_map] at hb
  cases hv : (txtF f)[j]? with
  | none => rw [hv] at hb; cases hb
  | some v =>
    rw [hv] at hb
    simp only [Option.map_some, Option.some.injEq] at hb
    have := h1 v (List.mem_of_getElem? hv)
    unfold okC at this
    subst hb
    rw [UInt8.toNat_ofNat']
    omega
theorem ok16' {x : Nat} {R : ByteArray → Prop} (hx : x < 18446744073709551616) (r : R (textM x)) : Ok16 x R := by
  apply ok16; unfold T16
  rw [order_ne]
  unfold textM at r
  refine cnd_b (fun h => ?_) fun h => ok29p (cnd_b (fun h2 => ?_) fun h2 => ok29n (cnd_b (fun h3 => ?_) fun h3 => ?_))
  · rw [if_pos h] at r; exact r
  · rw [if_neg (by rw [h]; decide), if_pos h2] at r; exact r
  · rw [if_neg (by rw [h]; decide), if_neg (by rw [h2]; decide), if_pos h3] at r; exact r
  rw [if_neg (by rw [h]; decide), if_neg (by rw [h2]; decide), if_neg (by rw [h3]; decide)] at r
  have hf := fin_of h h2 h3
  obtain ⟨b1, b2⟩ := txt_bytes hf
  refine ok33' hx hf (ok34' (by omega) (by decide) b2 (by intro j b hb; match j, hb with | 0, hb => simp at hb; subst hb; decide | 1, hb => simp at hb; subst hb; decide | j + 2, hb => simp at hb) ?_)
  refine ⟨fun t => t = (if hasDE (strOf (txtF x)).data.toList then strOf (txtF x) else strOf (txtF x) ++ ⟨#[46, 48]⟩), cnd_not (fun hh => ⟨?_, ?_⟩) fun hh => ?_, ?_⟩
  · have : (⟨#[46, 48]⟩ : ByteArray).size = 2 := rfl
    omega
  · have hh : hasDE (strOf (txtF x)).data.toList = false := hh
    rw [hh]; rfl
  · have hh : hasDE (strOf (txtF x)).data.toList = true := hh
    rw [hh]; rfl
  · rintro _ rfl; exact r
end Go.Proofs.YtfjflbapojgbhaaGreatDoor.N

/- Reading numbers: the form, the value, and the refusals. Conditions: none. -/
namespace Go.Proofs.YtfjflbapojgbhaaGreatDoor.N
open Go.X Go.Proofs.YtfjflbapojgbhaaGreatDoor
open Go.RowKit (Below)
set_option maxRecDepth 100000
set_option maxHeartbeats 1000000

theorem toL (s : ByteArray) : s.toList = s.data.toList := Lib.toList_data s
theorem toLe (s : ByteArray) : (s.toList == (⟨#[]⟩ : ByteArray).toList) = s.data.toList.isEmpty := by
  rw [toL, toL]
  cases s.data.toList <;> rfl
def dropS (l : List UInt8) : List UInt8 :=
  match l with
  | c :: r => if c = 43 ∨ c = 45 then r else c :: r
  | [] => []
def dgN (l : List UInt8) : Nat := (l.takeWhile isD).length
theorem ext1 {s : ByteArray} {k : Nat} : (s.extract k s.size).data.toList = s.data.toList.drop k := by
  rw [extB, List.take_of_length_le (show s.data.toList.length ≤ s.size from Nat.le_refl _)]
theorem ok35' {s : ByteArray} {R : ByteArray → Prop} (r : ∀ t : ByteArray, t.data.toList = dropS s.data.toList → R t) : Ok35 s R := by
  apply ok35; unfold T35
  rw [toLe]
  cases hl : s.data.toList with
  | nil => exact ⟨True, cnd_f rfl trivial, fun _ => r s (by rw [hl]; rfl)⟩
  | cons c l =>
    have h0 : 0 < s.size := by show 0 < s.data.toList.length; rw [hl]; simp
    have hc : s[Int.toNat 0]? = some c := by rw [getB, hl]; rfl
    have hd : (s.extract (Int.toNat 1) s.size).data.toList = l := by rw [show Int.toNat 1 = 1 from rfl, ext1, hl]; rfl
    refine ⟨¬ (c = 43 ∨ c = 45), cnd_t rfl ⟨by decide, by omega, c, hc, cnd_eq (fun h => ⟨by decide, by omega, r _ ?_⟩) fun h => ⟨by decide, by omega, c, hc, cnd_eq (fun h2 => ⟨by decide, by omega, r _ ?_⟩) fun h2 => ?_⟩⟩, fun hJ => r s ?_⟩
    · rw [hd, hl]; show l = if c = 43 ∨ c = 45 then l else c :: l; rw [if_pos (.inl (eqB.1 h))]
    · rw [hd, hl]; show l = if c = 43 ∨ c = 45 then l else c :: l; rw [if_pos (.inr (eqB.1 h2))]
    · rintro (e | e)
      · exact h (eqB.2 e)
      · exact h2 (eqB.2 e)
    · rw [hl]; show c :: l = if c = 43 ∨ c = 45 then l else c :: l; rw [if_neg hJ]
theorem dgN_le (l : List UInt8) : dgN l ≤ l.length := by
  unfold dgN; exact (List.takeWhile_sublist isD).length_le
theorem ok36' {s : ByteArray} (hs : s.size ≤ 9223372036854775807) {R : Int → Prop} (r : R (dgN s.data.toList : Int)) : Ok36 s R := by
  apply ok36; unfold T36
  have hsz : s.size = s.data.toList.length := rfl
  refine ⟨fun n => n = (dgN s.data.toList : Int), ⟨fun i => ∃ k : Nat, i = k ∧ k ≤ s.data.toList.length ∧ dgN s.data.toList = k + dgN (s.data.toList.drop k), fun i => s.size - i.toNat, ⟨0, rfl, Nat.zero_le _, by simp⟩, ?_⟩, fun _ h => h ▸ r⟩
  rintro _ ⟨k, rfl, hk, hd⟩
  by_cases hlt : k < s.data.toList.length
  · have hdr : s.data.toList.drop k = s.data.toList[k] :: s.data.toList.drop (k + 1) := List.drop_eq_getElem_cons hlt
    have hat : s[Int.toNat (k : Int)]? = some s.data.toList[k] := by rw [getB, Int.toNat_natCast, List.getElem?_eq_getElem hlt]
    generalize s.data.toList[k] = c at *
    rw [hdr] at hd
    by_cases hc : isD c = true
    · have hc2 := isD_iff.1 hc
      have hd2 : dgN s.data.toList = (k + 1) + dgN (s.data.toList.drop (k + 1)) := by
        rw [hd]; unfold dgN; rw [List.takeWhile_cons, if_pos hc, List.length_cons]; omega
      have hw : IntKind.i64.wrap ((k : Int) + 1) = ((k + 1 : Nat) : Int) := by rw [wr (by omega) (by omega)]; omega
      refine ⟨False, cnd_dec (fun _ => ⟨by omega, by omega, c, hat, cnd_dec (fun _ => ⟨by omega, by omega, c, hat, cnd_dec (fun _ => ⟨⟨k + 1, hw, hlt, hd2⟩, ?_⟩) fun h => absurd (show ((c.toNat : Nat) : Int) ≤ 57 by omega) h⟩) fun h => absurd (show ((c.toNat : Nat) : Int) ≥ 48 by omega) h⟩) fun h => absurd (show (k : Int) < (s.size : Int) by omega) h, fun h => h.elim⟩
      dsimp only; rw [hw]; omega
    · have hc2 : ¬ (48 ≤ c.toNat ∧ c.toNat ≤ 57) := fun h => hc (isD_iff.2 h)
      have hd2 : (k : Int) = (dgN s.data.toList : Int) := by
        rw [hd]; unfold dgN; rw [List.takeWhile_cons, if_neg hc]; simp
      refine ⟨True, cnd_dec (fun _ => ⟨by omega, by omega, c, hat, cnd_dec (fun h1 => ⟨by omega, by omega, c, hat, cnd_dec (fun h2 => absurd (show 48 ≤ c.toNat ∧ c.toNat ≤ 57 by omega) hc2) fun _ => hd2⟩) fun _ => trivial⟩) fun _ => trivial, fun _ => hd2⟩
  · have hd2 : (k : Int) = (dgN s.data.toList : Int) := by
      rw [hd, List.drop_eq_nil_of_le (by omega)]; simp [dgN]
    exact ⟨True, cnd_dec (fun h => absurd h (by omega)) fun _ => trivial, fun _ => hd2⟩
/-- Behind a point, if there is one. -/
def pntF (l : List UInt8) : Option (List UInt8) :=
  match l with
  | [] => some []
  | c :: y => if c = 46 then (if dgN y = 0 then none else some (y.drop (dgN y))) else some (c :: y)
/-- The exponent, if there is one. -/
def expF (q : Option (List UInt8)) : Bool :=
  match q with
  | none => false
  | some [] => true
  | some (c :: t) => if c = 101 ∨ c = 69 then decide (1 ≤ (dropS t).length) && (decide ((dropS t).length ≤ 4) && decide (dgN (dropS t) = (dropS t).length)) else false
/-- Is it a number's text? -/
def numF (l : List UInt8) : Bool := if dgN (dropS l) = 0 then false else expF (pntF ((dropS l).drop (dgN (dropS l))))
theorem sz_le {t : ByteArray} {l : List UInt8} (h : t.data.toList = l) : t.size = l.length := by rw [← h]; rfl
theorem dropS_le (l : List UInt8) : (dropS l).length ≤ l.length := by
  unfold dropS; split
  · split <;> simp
  · simp
theorem ok27' {s : ByteArray} (hs : s.size ≤ 9223372036854775807) {R : Bool → Prop} (r : R (numF s.data.toList)) : Ok27 s R := by
  apply ok27; unfold T27
  refine ok35' fun t ht => ?_
  have hst := sz_le ht
  have hle := dropS_le s.data.toList
  have hsl : s.size = s.data.toList.length := rfl
  refine ok36' (by omega) ?_
  rw [ht]
  unfold numF at r
  generalize dropS s.data.toList = l at *
  have hn := dgN_le l
  refine cnd_eq (fun h => ?_) fun h => ?_
  · rw [if_pos (by omega)] at r; exact r
  rw [if_neg (by omega)] at r
  have hx : (t.extract (Int.toNat (dgN l : Int)) t.size).data.toList = l.drop (dgN l) := by rw [Int.toNat_natCast, ext1, ht]
  generalize hX : t.extract (Int.toNat (dgN l : Int)) t.size = X at *
  have hXs := sz_le hx
  have hXl : (l.drop (dgN l)).length ≤ l.length := by rw [List.length_drop]; omega
  refine ⟨by omega, by omega, fun u => pntF (l.drop (dgN l)) = some u.data.toList, ?_, ?_⟩
  · rw [toLe, hx]
    generalize l.drop (dgN l) = y at *
    cases y with
    | nil => exact cnd_f rfl (by show pntF [] = some X.data.toList; rw [hx]; rfl)
    | cons c y =>
      refine cnd_t rfl ⟨by decide, by rw [hXs]; simp, c, by rw [getB, hx]; rfl, fun u => pntF (c :: y) = some u.data.toList, cnd_eq (fun h46 => ?_) fun h46 => ?_, fun _ h => h⟩
      · have hc : c = 46 := eqB.1 h46
        subst hc
        have hp : pntF (46 :: y) = if dgN y = 0 then none else some (y.drop (dgN y)) := rfl
        rw [hp] at r ⊢
        have hx1 : (X.extract (Int.toNat 1) X.size).data.toList = y := by rw [show Int.toNat 1 = 1 from rfl, ext1, hx]; rfl
        have hx1s := sz_le hx1
        have hyl : y.length ≤ 9223372036854775806 := by simp at hXl; omega
        have hdy := dgN_le y
        have hX1 : X.size = y.length + 1 := by rw [hXs]; simp
        refine ⟨by decide, by omega, ok36' (by omega) ?_⟩
        rw [hx1]
        refine cnd_eq (fun hz => ?_) fun hz => ?_
        · rw [if_pos (show dgN y = 0 by omega)] at r; exact r
        · have hw : IntKind.i64.wrap (1 + (dgN y : Int)) = ((1 + dgN y : Nat) : Int) := by rw [wr (by omega) (by omega)]; omega
          rw [hw, if_neg (show ¬ dgN y = 0 by omega)]
          refine ⟨by omega, by omega, ?_⟩
          rw [Int.toNat_natCast]; dsimp only; rw [ext1, hx, Nat.add_comm]; rfl
      · have hc : c ≠ 46 := fun e => h46 (eqB.2 e)
        show (if c = 46 then (if dgN y = 0 then none else some (y.drop (dgN y))) else some (c :: y)) = some X.data.toList
        rw [if_neg hc, hx]
  · intro u hu
    rw [hu] at r
    rw [toLe]
    have hul : u.data.toList.length ≤ l.length := by
      have gen : ∀ z w : List UInt8, pntF z = some w → w.length ≤ z.length := by
        intro z w h
        unfold pntF at h
        split at h
        · cases h; exact Nat.le_refl _
        · split at h
          · split at h
            · cases h
            · cases h; rw [List.length_drop, List.length_cons]; omega
          · cases h; exact Nat.le_refl _
      exact Nat.le_trans (gen _ _ hu) hXl
    have hus : u.size = u.data.toList.length := rfl
    cases hl2 : u.data.toList with
    | nil => rw [hl2] at r; exact cnd_t rfl r
    | cons c y =>
      rw [hl2] at r hul
      have r : R (if c = 101 ∨ c = 69 then decide (1 ≤ (dropS y).length) && (decide ((dropS y).length ≤ 4) && decide (dgN (dropS y) = (dropS y).length)) else false) := r
      have hc0 : u[Int.toNat 0]? = some c := by rw [getB, hl2]; rfl
      have h0 : (0 : Int) < ((u.size : Nat) : Int) := by rw [hus, hl2]; simp
      refine cnd_f rfl ⟨c = 101 ∨ c = 69, ⟨by decide, h0, c, hc0, cnd_ne (fun h1 => ⟨by decide, h0, c, hc0, cnd_ne (fun h2 => ?_) fun h2 => .inr (eqB.1 h2)⟩) fun h1 => .inl (eqB.1 h1)⟩, fun hE => ?_⟩
      · rw [if_neg (by rintro (e | e); exact h1 (eqB.2 e); exact h2 (eqB.2 e))] at r; exact r
      · rw [if_pos hE] at r
        refine ⟨by decide, by omega, ok35' fun v hv => ?_⟩
        rw [show Int.toNat 1 = 1 from rfl, ext1, hl2] at hv
        have hv : v.data.toList = dropS y := hv
        have hvs := sz_le hv
        have hvl := dropS_le y
        simp only [List.length_cons] at hul
        refine cnd_dec (fun h1 => cnd_dec (fun h4 => ok36' (by omega) ?_) fun h4 => ?_) fun h1 => ?_
        · rw [hv]
          have : ((dgN (dropS y) : Int) == ((v.size : Nat) : Int)) = decide (dgN (dropS y) = (dropS y).length) := by
            rw [Bool.eq_iff_iff]; simp; omega
          rw [this]
          rw [decide_eq_true (show 1 ≤ (dropS y).length by omega), decide_eq_true (show (dropS y).length ≤ 4 by omega)] at r
          exact r
        · rw [decide_eq_false (show ¬ (dropS y).length ≤ 4 by omega), Bool.false_and, Bool.and_false] at r
          exact r
        · rw [decide_eq_false (show ¬ 1 ≤ (dropS y).length by omega), Bool.false_and] at r
          exact r
end Go.Proofs.YtfjflbapojgbhaaGreatDoor.N

/- A text of the form of a number is one that the scan reads to its end. Conditions: none. -/
namespace Go.Proofs.YtfjflbapojgbhaaGreatDoor.N
open Go.X Go.Proofs.YtfjflbapojgbhaaGreatDoor
set_option maxRecDepth 100000
set_option maxHeartbeats 1000000

theorem drop_sgn (l : List UInt8) : l.drop (sgnOf l).2 = dropS l := by
  unfold sgnOf dropS
  cases l with
  | nil => rfl
  | cons c r =>
    simp only []
    by_cases h1 : c = 43
    · rw [if_pos h1, if_pos (.inl h1)]; rfl
    · rw [if_neg h1]
      by_cases h2 : c = 45
      · rw [if_pos h2, if_pos (.inr h2)]; rfl
      · rw [if_neg h2, if_neg (by rintro (e | e); exact h1 e; exact h2 e)]; rfl
def dgt (c : UInt8) : Nat := c.toNat - 48
theorem not46 {c : UInt8} (h : isD c = true) : c ≠ 46 := fun e => by subst e; simp [isD] at h
theorem scan_app : ∀ (A : List UInt8) (st : RS) (t : List UInt8), (∀ c ∈ A, isD c = true) → scan st (A ++ t) = scan (A.foldl (fun s c => stepD s (dgt c)) st) t
  | [], _, _, _ => rfl
  | c :: A, st, t, h => by
    have hc := h c (by simp)
    rw [List.cons_append, scan, if_neg (not46 hc), if_pos hc, scan_app A _ t (fun d hd => h d (by simp [hd]))]; rfl
theorem scan_stop {st : RS} {t : List UInt8} (h : ∀ c r, t = c :: r → c ≠ 46 ∧ isD c = false ∨ c = 46 ∧ st.dot = true) : scan st t = (st, t) := by
  cases t with
  | nil => rfl
  | cons c r =>
    rcases h c r rfl with ⟨h1, h2⟩ | ⟨h1, h2⟩
    · rw [scan, if_neg h1, h2]; rfl
    · rw [scan, if_pos h1, h2]; rfl
theorem step_dig (st : RS) (d : Nat) : (stepD st d).dig = true := by unfold stepD; split; rfl; split <;> rfl
theorem fold_dig : ∀ (A : List UInt8) (st : RS), st.dig = true → (A.foldl (fun s c => stepD s (dgt c)) st).dig = true
  | [], _, h => h
  | c :: A, st, _ => fold_dig A _ (step_dig st _)
theorem fold_dig' {A : List UInt8} (h : A ≠ []) (st : RS) : (A.foldl (fun s c => stepD s (dgt c)) st).dig = true := by
  cases A with
  | nil => exact absurd rfl h
  | cons c A => exact fold_dig A _ (step_dig st _)
theorem step_dot (st : RS) (d : Nat) : (stepD st d).dot = st.dot := by unfold stepD; split; rfl; split <;> rfl
theorem fold_dot : ∀ (A : List UInt8) (st : RS), (A.foldl (fun s c => stepD s (dgt c)) st).dot = st.dot
  | [], _ => rfl
  | c :: A, st => by rw [List.foldl_cons, fold_dot A, step_dot]
theorem dg_split0 : ∀ l : List UInt8, ∃ A t, l = A ++ t ∧ A.length = dgN l ∧ (∀ c ∈ A, isD c = true) ∧ ∀ c r, t = c :: r → isD c = false
  | [] => ⟨[], [], rfl, rfl, by simp, by simp⟩
  | c :: l => by
    by_cases hc : isD c = true
    · obtain ⟨A, t, h1, h2, h3, h4⟩ := dg_split0 l
      refine ⟨c :: A, t, by rw [h1]; rfl, ?_, fun d hd => ?_, h4⟩
      · unfold dgN at h2 ⊢
        rw [List.takeWhile_cons, if_pos hc, List.length_cons, List.length_cons, h2]
      · rcases List.mem_cons.1 hd with rfl | hd
        · exact hc
        · exact h3 d hd
    · refine ⟨[], c :: l, rfl, ?_, by simp, fun d r h => ?_⟩
      · unfold dgN; rw [List.takeWhile_cons, if_neg hc]
      · cases h; simpa using hc
theorem dg_split (l : List UInt8) : ∃ A t, l = A ++ t ∧ A.length = dgN l ∧ (∀ c ∈ A, isD c = true) ∧ t = l.drop (dgN l) ∧ ∀ c r, t = c :: r → isD c = false := by
  obtain ⟨A, t, h1, h2, h3, h4⟩ := dg_split0 l
  exact ⟨A, t, h1, h2, h3, by rw [← h2, h1, List.drop_left], h4⟩
theorem expo_of {q : List UInt8} (h : expF (some q) = true) : q = [] ∨ ∃ c sg ds, Expo q c sg ds := by
  cases q with
  | nil => exact .inl rfl
  | cons c t =>
    have h : (if c = 101 ∨ c = 69 then decide (1 ≤ (dropS t).length) && (decide ((dropS t).length ≤ 4) && decide (dgN (dropS t) = (dropS t).length)) else false) = true := h
    split at h
    · rename_i hc
      simp only [Bool.and_eq_true, decide_eq_true_eq] at h
      obtain ⟨h1, h2, h3⟩ := h
      have hall : ∀ d ∈ dropS t, isD d = true := by
        obtain ⟨A, u, e, hl, hA, _⟩ := dg_split (dropS t)
        have : u = [] := by
          have hlen : (dropS t).length = A.length + u.length := by rw [e, List.length_append]
          exact List.eq_nil_of_length_eq_zero (by omega)
        rw [this, List.append_nil] at e
        rw [e]; exact hA
      have hsp : ∃ sg, t = sg ++ dropS t ∧ (sg = [] ∨ sg = [43] ∨ sg = [45]) := by
        cases t with
        | nil => exact ⟨[], rfl, .inl rfl⟩
        | cons a t =>
          by_cases ha : a = 43 ∨ a = 45
          · have : dropS (a :: t) = t := by show (if a = 43 ∨ a = 45 then t else a :: t) = t; rw [if_pos ha]
            rw [this]
            exact ⟨[a], rfl, .inr (ha.imp (fun e => by rw [e]) fun e => by rw [e])⟩
          · have : dropS (a :: t) = a :: t := by show (if a = 43 ∨ a = 45 then t else a :: t) = _; rw [if_neg ha]
            rw [this]; exact ⟨[], rfl, .inl rfl⟩
      obtain ⟨sg, e, hsg⟩ := hsp
      exact .inr ⟨c, sg, dropS t, by rw [← e], hc, hsg, fun e => by rw [e] at h1; simp at h1, h2, hall⟩
    · cases h
theorem okch_d {c : UInt8} (h : isD c = true) : c ≠ 120 ∧ c ≠ 88 ∧ c ≠ 95 := by
  have := isD_iff.1 h
  exact ⟨fun e => by subst e; exact absurd this (by decide), fun e => by subst e; exact absurd this (by decide), fun e => by subst e; exact absurd this (by decide)⟩
theorem expo_ch {q : List UInt8} (h : q = [] ∨ ∃ c sg ds, Expo q c sg ds) : ∀ c ∈ q, c ≠ 120 ∧ c ≠ 88 ∧ c ≠ 95 := by
  intro d hd
  rcases h with rfl | ⟨c, sg, ds, hE⟩
  · simp at hd
  · rw [hE.eq] at hd
    simp only [List.mem_cons, List.mem_append] at hd
    rcases hd with rfl | hd | hd
    · rcases hE.e with rfl | rfl <;> decide
    · rcases hE.sg with e | e | e <;> subst e <;> simp at hd <;> subst hd <;> decide
    · exact okch_d (hE.dg d hd)
/-- What a number's text is made of. -/
theorem txt_of_num {s : ByteArray} (hs : s.size < 100000) (h : numF s.data.toList = true) : ∃ st rest, Txt s st rest := by
  generalize hl : s.data.toList = l at *
  unfold numF at h
  split at h
  · cases h
  rename_i hn
  obtain ⟨A, t, h1, h2, h3, h4, h5⟩ := dg_split (dropS l)
  rw [← h4] at h
  have hA : A ≠ [] := fun e => by rw [e] at h2; simp at h2; omega
  have hhead : numHead l := by
    obtain ⟨a, A', rfl⟩ := List.exists_cons_of_ne_nil hA
    have ha := h3 a (by simp)
    cases l with
    | nil => simp [dropS] at h1
    | cons c r =>
      by_cases hc : c = 43 ∨ c = 45
      · have e : dropS (c :: r) = r := by show (if c = 43 ∨ c = 45 then r else c :: r) = r; rw [if_pos hc]
        rw [e] at h1
        exact ⟨c, r, rfl, .inr ⟨hc, a, A' ++ t, h1, ha⟩⟩
      · have e : dropS (c :: r) = c :: r := by show (if c = 43 ∨ c = 45 then r else c :: r) = _; rw [if_neg hc]
        rw [e] at h1
        have : c = a := (List.cons.inj h1).1
        exact ⟨c, r, rfl, .inl (by rw [this]; exact ha)⟩
  have hsig : ∀ c ∈ l, c ∈ dropS l ∨ c = 43 ∨ c = 45 := by
    intro c hc
    cases l with
    | nil => simp at hc
    | cons a r =>
      by_cases ha : a = 43 ∨ a = 45
      · have e : dropS (a :: r) = r := by show (if a = 43 ∨ a = 45 then r else a :: r) = r; rw [if_pos ha]
        rw [e]
        rcases List.mem_cons.1 hc with rfl | hc
        · exact .inr ha
        · exact .inl hc
      · have e : dropS (a :: r) = a :: r := by show (if a = 43 ∨ a = 45 then r else a :: r) = _; rw [if_neg ha]
        rw [e]; exact .inl hc
  have fin : ∀ st rest, scan RS0 (dropS l) = (st, rest) → st.dig = true → (rest = [] ∨ ∃ c sg ds, Expo rest c sg ds) → (∀ c ∈ dropS l, c ≠ 120 ∧ c ≠ 88 ∧ c ≠ 95) → ∃ st rest, Txt s st rest := by
    intro st rest q1 q2 q3 q4
    refine ⟨st, rest, hs, by rw [hl]; exact hhead, fun c hc => ?_, by rw [hl, drop_sgn]; exact q1, q2, q3⟩
    rw [hl] at hc
    rcases hsig c hc with e | rfl | rfl
    · exact q4 c e
    · decide
    · decide
  have chA : ∀ c ∈ A, c ≠ 120 ∧ c ≠ 88 ∧ c ≠ 95 := fun c hc => okch_d (h3 c hc)
  have hsA : scan RS0 (dropS l) = scan (A.foldl (fun s c => stepD s (dgt c)) RS0) t := by rw [h1]; exact scan_app A RS0 t h3
  have hdA := fold_dig' hA RS0
  have hdotA : (A.foldl (fun s c => stepD s (dgt c)) RS0).dot = false := fold_dot A RS0
  generalize A.foldl (fun s c => stepD s (dgt c)) RS0 = s1 at *
  have stopE : ∀ (q : List UInt8) (st : RS), (q = [] ∨ ∃ c sg ds, Expo q c sg ds) → scan st q = (st, q) := by
    intro q st hq
    refine scan_stop fun c r e => .inl ?_
    rcases hq with rfl | ⟨c', sg, ds, hE⟩
    · cases e
    · rw [hE.eq] at e
      have : c' = c := (List.cons.inj e).1
      rw [← this]
      rcases hE.e with rfl | rfl <;> decide
  cases t with
  | nil =>
    refine fin s1 [] (by rw [hsA]; rfl) hdA (.inl rfl) fun c hc => ?_
    rw [h1, List.append_nil] at hc; exact chA c hc
  | cons c y =>
    by_cases hc : c = 46
    · subst hc
      have hp : pntF (46 :: y) = if dgN y = 0 then none else some (y.drop (dgN y)) := rfl
      rw [hp] at h
      split at h
      · cases h
      rename_i hny
      obtain ⟨B, u, g1, g2, g3, g4, g5⟩ := dg_split y
      rw [← g4] at h
      have hq := expo_of h
      have hs2 : scan s1 (46 :: y) = scan (dotS s1) y := by rw [scan, if_pos rfl, hdotA]; rfl
      have hs3 : scan (dotS s1) y = scan (B.foldl (fun s c => stepD s (dgt c)) (dotS s1)) u := by
        conv => lhs; rw [g1]
        exact scan_app B _ u g3
      refine fin (B.foldl (fun s c => stepD s (dgt c)) (dotS s1)) u (by rw [hsA, hs2, hs3]; exact stopE u _ hq) (fold_dig B (dotS s1) hdA) hq fun c hc => ?_
      rw [h1, g1] at hc
      simp only [List.mem_append, List.mem_cons] at hc
      rcases hc with hc | rfl | hc | hc
      · exact chA c hc
      · decide
      · exact okch_d (g3 c hc)
      · exact expo_ch hq c hc
    · have hp : pntF (c :: y) = some (c :: y) := by show (if c = 46 then _ else some (c :: y)) = _; rw [if_neg hc]
      rw [hp] at h
      have hq := expo_of h
      refine fin _ (c :: y) (by rw [hsA]; exact stopE _ _ hq) hdA hq fun d hd => ?_
      rw [h1] at hd
      rcases List.mem_append.1 hd with hd | hd
      · exact chA d hd
      · exact expo_ch hq d hd
end Go.Proofs.YtfjflbapojgbhaaGreatDoor.N

/- weigh.Read answers as told, if ParseFloat has a value. Conditions: none. -/
namespace Go.Proofs.YtfjflbapojgbhaaGreatDoor.N
open Go.X Go.Proofs.YtfjflbapojgbhaaGreatDoor
open Go.RowKit (Below)
set_option maxRecDepth 100000
set_option maxHeartbeats 1000000

/-- The inner ParseFloat has this value. -/
def P37 (s : ByteArray) (V : Nat) : Prop := ∃ e : Option Int, (e = none ∨ e = some 1) ∧ ∀ R : Nat → Option Int → Prop, R V e → Ok37 s 64 R
theorem atofV_err (m : Nat) (e : Int) (ng : Bool) : (atofV m e ng).2 = none ∨ (atofV m e ng).2 = some 1 := by
  unfold atofV
  split
  · exact .inl rfl
  split
  · exact .inr rfl
  split
  · exact .inl rfl
  split
  · exact .inl rfl
  unfold parse64
  split
  · exact .inl rfl
  unfold pk
  split
  · exact .inl rfl
  split
  · exact .inr rfl
  · exact .inl rfl
theorem P37.of {s : ByteArray} {st : RS} {rest : List UInt8} (h : Txt s st rest) (ht : st.tr = false) : P37 s (atofV st.m (expV st rest) (sgnOf s.data.toList).1).1 :=
  ⟨_, atofV_err _ _ _, fun _ r => ok37' h ht r⟩
theorem gl_fr {gl : GL} {h h' : Heap} (g : Gl gl h) (f : Fr [] h h') : Gl gl h' := g.congr fun b hb => f.blk b (g.lt b hb) (by simp)
theorem hp_gl {gl : GL} {h : Heap} (g : Gl gl h) : Hp h [Ck.glob gl] := Hp.one g
theorem gl_hp {gl : GL} {h : Heap} (H : Hp h [Ck.glob gl]) : Gl gl h := H.ok 0 _ rfl
theorem cell_h {w : World} {b : Nat} {v : Value} (h : hcell w.heap b 0 = some v) : w.cell? ⟨b, 0, none⟩ = some v := by
  unfold hcell at h
  unfold World.cell?
  cases hb : w.heap[b]? with
  | none => rw [hb] at h; cases h
  | some o => rw [hb] at h; cases o <;> simp_all
theorem call28 {s : ByteArray} {V : Nat} {h : Heap} {gl : GL} (hs : s.size ≤ 281474976710656) (hV : P37 s V) (hp : Gl gl h) :
    CallsH Tryz.prog 28 #[.string s, .int .i64 64] h fun v h' => Fr [] h h' ∧ (v = .tuple #[.float .f64 V, .nilIface] ∨ ∃ t i, v = .tuple #[.float .f64 V, .iface t i]) := by
  obtain ⟨e, he, hV⟩ := hV
  have c := hV (fun a b => a = V ∧ b = e) ⟨rfl, rfl⟩ h gl (hp_gl hp)
  apply calls28
  unfold S28
  refine callX_nil (c.mono fun v h' ⟨a, b, P, e1, e2, e3⟩ => ⟨P.fr, show v = .tuple #[.float .f64 V, errV 64 e] by rw [e1, e2, e3]⟩) ?_
  rintro v h1 f1 rfl
  refine ⟨V, ?_⟩
  rcases he with rfl | rfl
  · exact .inl ⟨rfl, cnd_f rfl ⟨f1, .inl rfl⟩⟩
  · refine .inr ⟨64, .int .i64 1, rfl, cnd_t rfl ?_⟩
    have g1 := gl_fr hp f1
    obtain ⟨te, pe, hc⟩ := g1.e2
    refine callX_nil (R := fun v _ => ∃ N, v = .iface 65 (.pointer (some ⟨N, 0, none⟩))) (fun w hw => ?_) ?_
    · have hcw : w.cell? ⟨2, 0, none⟩ = some (.iface te pe) := cell_h (by rw [hw]; exact hc)
      exact (Go.Proofs.Tryz.strconv_toError_range (⟨#[80, 97, 114, 115, 101, 70, 108, 111, 97, 116]⟩ : ByteArray) s 0 64 (.iface te pe) w hs hcw (.inr ⟨te, pe, rfl⟩)).mono
        fun e w' ⟨N, q1, q2, q3, q4⟩ => ⟨_, q1, rest_below q4, by rw [← hw]; exact fr_below q4, N, rfl⟩
    · rintro v h2 f2 ⟨N, rfl⟩
      exact .inr ⟨_, _, rfl, f1.trans f2.nil, .inr ⟨_, _, rfl⟩⟩
theorem strEq (s t : ByteArray) : (s.toList == t.toList) = decide (s.data.toList = t.data.toList) := by
  rw [toL, toL]
  by_cases h : s.data.toList = t.data.toList
  · rw [decide_eq_true h, h]; simp
  · rw [decide_eq_false h]; simpa using h
def readV (l : List UInt8) (V : Nat) : Nat × Int :=
  if l = [78, 97, 78] then (9221120237041090561, 0) else if l = [73, 78, 70] then (9218868437227405312, 0) else if l = [45, 73, 78, 70] then (18442240474082181120, 0)
  else if numF l = false then (0, 17) else if 64 < l.length then (0, 23) else if isInf (absM V) then (0, 2) else (V, 0)
theorem ok26p {R : Nat → Prop} (r : R 9218868437227405312) : Ok26 1 R := by
  apply ok26; unfold T26
  refine ⟨fun v => v = 9218868437227405312, cnd_t (by decide) rfl, ?_⟩
  rintro _ rfl
  exact callE_of (from13 _) ⟨_, rfl, r⟩
theorem ok26n {R : Nat → Prop} (r : R 18442240474082181120) : Ok26 (-1) R := by
  apply ok26; unfold T26
  refine ⟨fun v => v = 18442240474082181120, cnd_f (by decide) rfl, ?_⟩
  rintro _ rfl
  exact callE_of (from13 _) ⟨_, rfl, r⟩
theorem ok39' {x : Nat} {R : Nat → Prop} (r : R (absM x)) : Ok39 x R := by
  apply ok39; unfold T39
  exact callE_of (bits32 _) ⟨_, rfl, callE_of (from13 _) ⟨_, rfl, r⟩⟩
theorem ok29z {x : Nat} {R : Bool → Prop} (r : R (isInf (absM x))) : Ok29 x 0 R := by
  apply ok29; unfold T29
  refine ⟨fun y => y = absM x, cnd_t (by decide) (ok39' rfl), ?_⟩
  rintro _ rfl; exact r
theorem ok10' {s : ByteArray} {V : Nat} (hs : s.size ≤ 9223372036854775807) (hV : numF s.data.toList = true → s.size ≤ 64 → P37 s V) {R : Nat → Int → Prop} (r : R (readV s.data.toList V).1 (readV s.data.toList V).2) : Ok10 s R := by
  intro h gl H
  have g := gl_hp H
  have hsl : s.size = s.data.toList.length := rfl
  apply calls10
  unfold S10
  rw [strEq, strEq, strEq]
  unfold readV at r
  have ret : ∀ (x : Nat) (e : Int) (h' : Heap), Fr [] h h' → R x e → (fun (v : Value) (h' : Heap) => ∃ (raV : Nat) (rbV : Int), Sy h [] h' [] ∧ v = Value.tuple #[Value.float FloatKind.f64 raV, Value.int IntKind.i64 rbV] ∧ R raV rbV) (.tuple #[.float .f64 x, .int .i64 e]) h' :=
    fun x e h' f q => ⟨x, e, sy0 f, rfl, q⟩
  have k0 : ∀ {h' : Heap}, Hp h' [] := fun {h'} => Hp.nil h'
  refine cnd_dec (fun h1 => callE_of (from13 _) ⟨_, rfl, ret _ _ _ (Fr.refl _ _) (by rw [if_pos h1] at r; exact r)⟩) fun h1 => cnd_dec (fun h2 => ?_) fun h2 => cnd_dec (fun h3 => ?_) fun h3 => ?_
  · rw [if_neg h1, if_pos h2] at r
    refine callX_nil ((ok26p (R := fun q => q = 9218868437227405312) rfl h k0).mono fun v h' ⟨a, P, e1, e2⟩ => ⟨P.fr, show v = .float .f64 9218868437227405312 by rw [e1, e2]⟩) ?_
    rintro v h' f rfl
    exact ⟨_, rfl, ret _ _ _ f r⟩
  · rw [if_neg h1, if_neg h2, if_pos h3] at r
    refine callX_nil ((ok26n (R := fun q => q = 18442240474082181120) rfl h k0).mono fun v h' ⟨a, P, e1, e2⟩ => ⟨P.fr, show v = .float .f64 18442240474082181120 by rw [e1, e2]⟩) ?_
    rintro v h' f rfl
    exact ⟨_, rfl, ret _ _ _ f r⟩
  rw [if_neg h1, if_neg h2, if_neg h3] at r
  refine callX_nil ((ok27' hs (R := fun q => q = numF s.data.toList) rfl h k0).mono fun v h' ⟨a, P, e1, e2⟩ => ⟨P.fr, show v = .bool (numF s.data.toList) by rw [e1, e2]⟩) ?_
  rintro v h' f rfl
  refine ⟨_, rfl, cnd_not (fun hn => ret _ _ _ f (by rw [if_pos hn] at r; exact r)) fun hn => ?_⟩
  rw [if_neg (by rw [hn]; decide)] at r
  refine cnd_dec (fun hl => ret _ _ _ f (by rw [if_pos (by omega)] at r; exact r)) fun hl => ?_
  rw [if_neg (by omega)] at r
  have K : ∀ h5 : Heap, Fr [] h h5 → callX Tryz.prog 29 #[.float .f64 V, .int .i64 0] h5 [] fun v6 hv6 => ∃ r5 : Bool, v6 = .bool r5 ∧ cnd r5
      ((fun (v : Value) (h' : Heap) => ∃ (raV : Nat) (rbV : Int), Sy h [] h' [] ∧ v = Value.tuple #[Value.float FloatKind.f64 raV, Value.int IntKind.i64 rbV] ∧ R raV rbV) (.tuple #[.float .f64 0, .int .i64 2]) hv6)
      ((fun (v : Value) (h' : Heap) => ∃ (raV : Nat) (rbV : Int), Sy h [] h' [] ∧ v = Value.tuple #[Value.float FloatKind.f64 raV, Value.int IntKind.i64 rbV] ∧ R raV rbV) (.tuple #[.float .f64 V, .int .i64 0]) hv6) := by
    intro h5 f5
    refine callX_nil ((ok29z (x := V) (R := fun q => q = isInf (absM V)) rfl h5 k0).mono fun v h' ⟨a, P, e1, e2⟩ => ⟨P.fr, show v = .bool (isInf (absM V)) by rw [e1, e2]⟩) ?_
    rintro v h6 f6 rfl
    refine ⟨_, rfl, cnd_b (fun hi => ret _ _ _ (f5.trans f6.nil) (by rw [if_pos hi] at r; exact r)) fun hi => ret _ _ _ (f5.trans f6.nil) (by rw [if_neg (by rw [hi]; decide)] at r; exact r)⟩
  intro K0
  refine callX_nil (call28 (by omega) (hV hn (by omega)) (gl_fr g f)) ?_
  rintro v h4 f4 hv
  refine ⟨V, ?_⟩
  rcases hv with rfl | ⟨t, i, rfl⟩
  · exact .inl ⟨rfl, K _ (f.trans f4.nil)⟩
  · exact .inr ⟨t, i, rfl, K _ (f.trans f4.nil)⟩
end Go.Proofs.YtfjflbapojgbhaaGreatDoor.N

/- What every law of this package asks first: some numbers are read and written. Conditions: none. -/
namespace Go.Proofs.YtfjflbapojgbhaaGreatDoor.N
open Go.X Go.Proofs.YtfjflbapojgbhaaGreatDoor
set_option maxRecDepth 100000
set_option maxHeartbeats 1000000

def s150 : ByteArray := ⟨#[43, 49, 46, 53, 48]⟩
theorem txt150 : Txt s150 ⟨150, false, true, true, 3, 3, 1⟩ [] :=
  ⟨by decide, ⟨43, [49, 46, 53, 48], rfl, .inr ⟨.inl rfl, 49, [46, 53, 48], rfl, by decide⟩⟩, by decide, rfl, rfl, .inl rfl⟩
theorem val150 : (atofV 150 (-2) false).1 = 4609434218613702656 := by decide +kernel
theorem p150 : P37 s150 4609434218613702656 := by
  have := P37.of txt150 rfl
  rwa [show expV (⟨150, false, true, true, 3, 3, 1⟩ : RS) [] = -2 from by decide, show (sgnOf s150.data.toList).1 = false from by decide, val150] at this
theorem d01 : dOf 4591870180066957722 = 1000000000000000 ∧ pOf 4591870180066957722 = -16 := by decide +kernel
theorem d1 : dOf 4607182418800017408 = 1000000000000000 ∧ pOf 4607182418800017408 = -15 := by decide +kernel
theorem n16 : ndg 1000000000000000 = 16 := by
  unfold ndg
  rw [if_neg (by decide)]
  exact Lib.nDigits_unique 15 _ (by decide) (by decide)
theorem t01 : txtF 4591870180066957722 = [48, 46, 49] := by
  unfold txtF
  rw [if_neg (by decide)]
  unfold LOf dpOf
  rw [d01.1, d01.2, n16]
  decide +kernel
theorem t1 : txtF 4607182418800017408 = [49] := by
  unfold txtF
  rw [if_neg (by decide)]
  unfold LOf dpOf
  rw [d1.1, d1.2, n16]
  decide +kernel
theorem text01 : (textM 4591870180066957722).data.toList = [48, 46, 49] := by
  unfold textM
  rw [if_neg (by decide), if_neg (by decide +kernel), if_neg (by decide +kernel), t01, if_pos (by decide)]
  decide
theorem text1 : (textM 4607182418800017408).data.toList = [49, 46, 48] := by
  unfold textM
  rw [if_neg (by decide), if_neg (by decide +kernel), if_neg (by decide +kernel), t1, if_neg (by decide)]
  decide
theorem ok9' {R : Bool → Prop} (r : R true) : Ok9 R := by
  apply ok9; unfold T9
  refine ok10' (s := s150) (V := 4609434218613702656) (by decide) (fun _ _ => p150) ?_
  rw [show readV s150.data.toList 4609434218613702656 = (4609434218613702656, 0) from by decide +kernel]
  refine ok10' (s := ⟨#[105, 110, 102]⟩) (V := 0) (by decide) (fun h => absurd h (by decide)) ?_
  rw [show readV (⟨#[105, 110, 102]⟩ : ByteArray).data.toList 0 = (0, 17) from by decide +kernel]
  refine ⟨False, ok18' (cnd_t (by decide) (ok18' (cnd_t (by decide) (ok16' (by decide) ?_)))), fun h => h.elim⟩
  rw [strEq, text01]
  refine cnd_t (by decide) (ok16' (by decide) ?_)
  rw [strEq, text1]
  refine cnd_t (by decide) (cnd_t (by decide) (cnd_t (by decide) (cnd_t (by decide) (ok14' ?_))))
  rw [show lessW 4607182418800017408 4611686018427387904 = true from by decide]
  exact r
end Go.Proofs.YtfjflbapojgbhaaGreatDoor.N
