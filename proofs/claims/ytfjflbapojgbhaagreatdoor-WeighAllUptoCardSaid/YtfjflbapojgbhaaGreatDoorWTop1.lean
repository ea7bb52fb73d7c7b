/- Classes, order, sums and texts of floats, as functions. Conditions: none. -/
import Derived.Test.YtfjflbapojgbhaaGreatDoorTTop
import Derived.Test.YtfjflbapojgbhaaGreatDoorWAtof
namespace Go.Proofs.YtfjflbapojgbhaaGreatDoor.N
open Go.X Go.Proofs.YtfjflbapojgbhaaGreatDoor
set_option maxRecDepth 100000
set_option maxHeartbeats 1000000

theorem ok12' {a b : Nat} {R : Bool → Prop} (r : R (a == b)) : Ok12 a b R := by
  apply ok12; unfold T12
  refine callE_of (bits32 _) ⟨_, rfl, callE_of (bits32 _) ⟨_, rfl, ?_⟩⟩
  have : ((a : Int) == (b : Int)) = (a == b) := by rw [Bool.eq_iff_iff]; simp; omega
  rw [this]; exact r
/-- An order with NaN last. -/
def lessW (a b : Nat) : Bool := if isNaN a then false else if isNaN b then true else F64.order a b == some .lt
theorem ok14' {a b : Nat} {R : Bool → Prop} (r : R (lessW a b)) : Ok14 a b R := by
  apply ok14; unfold T14
  rw [order_ne, order_ne, order_eq]
  refine cnd_b (fun ha => ?_) fun ha => cnd_b (fun hb => ?_) fun hb => ?_
  · simpa [lessW, ha] using r
  · simpa [lessW, ha, hb] using r
  · simpa [lessW, ha, hb] using r
theorem ok25' {a b : Nat} {R : Bool → Prop} (r : R (lessW a b)) : Ok25 a b R := by
  apply ok25; unfold T25
  rw [order_ne, order_ne]
  refine cnd_b (fun ha => ?_) fun ha => cnd_b (fun hb => ?_) fun hb => ?_
  · simpa [lessW, ha] using r
  · simpa [lessW, ha, hb] using r
  · simpa [lessW, ha, hb] using r
def goodM (x : Nat) : Bool := (F64.order x 0 == some .gt) || (F64.order x 0 == some .eq)
theorem ok18' {a : Nat} {R : Bool → Prop} (r : R (goodM a)) : Ok18 a R := by apply ok18; exact r
theorem ok19' {a : Nat} {R : Bool → Prop} (r : R (goodM a)) : Ok19 a R := by apply ok19; exact r
theorem ok30' {R : Nat → Prop} (r : R nanC) : Ok30 R := by
  apply ok30; exact callE_of (from13 _) ⟨_, rfl, r⟩
theorem ok20' {x : Nat} {R : Nat → Prop} (r : R (cleanM x)) : Ok20 x R := by
  apply ok20; unfold T20
  rw [order_ne]
  refine cnd_b (fun hx => callE_of (from13 _) ⟨_, rfl, ?_⟩) fun hx => cnd_b (fun h0 => ?_) fun h0 => ?_
  · simpa [cleanM, hx] using r
  · have h0 : (F64.order x 0 == some .eq) = true := h0
    simpa [cleanM, hx, h0] using r
  · have h0 : (F64.order x 0 == some .eq) = false := h0
    simpa [cleanM, hx, h0] using r
theorem ok21' {x : Nat} {R : Nat → Prop} (r : R (cleanM x)) : Ok21 x R := by
  apply ok21; unfold T21
  rw [order_ne]
  refine cnd_b (fun hx => ok30' ?_) fun hx => cnd_b (fun h0 => ?_) fun h0 => ?_
  · simpa [cleanM, hx, nanC] using r
  · have h0 : (F64.order x 0 == some .eq) = true := h0
    simpa [cleanM, hx, h0] using r
  · have h0 : (F64.order x 0 == some .eq) = false := h0
    simpa [cleanM, hx, h0] using r
/-- The clean sum. -/
def sumM (a b : Nat) : Nat := cleanM (addM a b)
theorem ok23' {a b : Nat} {R : Nat → Prop} (r : R (sumM a b)) : Ok23 a b R := by
  apply ok23; unfold T23
  intro q hq
  refine ok20' ?_
  have := (feq.add (feq.refl' a) (feq.refl' b) hq).clean
  rw [this]; exact r
theorem ok24' {a b : Nat} {R : Nat → Prop} (r : R (sumM a b)) : Ok24 a b R := by
  apply ok24; unfold T24
  intro q hq
  refine ok21' ?_
  have := (feq.add (feq.refl' a) (feq.refl' b) hq).clean
  rw [this]; exact r
abbrev MAXF : Nat := 9218868437227405311
def isInf (x : Nat) : Bool := F64.order x MAXF == some .gt
theorem ok29p {x : Nat} {R : Bool → Prop} (r : R (isInf x)) : Ok29 x 1 R := by
  apply ok29; unfold T29
  refine ⟨fun y => y = x, cnd_f (by decide) ⟨fun y => y = x, cnd_f (by decide) rfl, fun _ h => h⟩, ?_⟩
  rintro _ rfl; exact r
theorem ok29n {x : Nat} {R : Bool → Prop} (r : R (isInf (negM x))) : Ok29 x (-1) R := by
  apply ok29; unfold T29
  refine ⟨fun y => y = negM x, cnd_f (by decide) ⟨fun y => y = negM x, cnd_t (by decide) rfl, fun _ h => h⟩, ?_⟩
  rintro _ rfl; exact r
theorem fin_of {x : Nat} (hn : isNaN x = false) (hp : isInf x = false) (hm : isInf (negM x) = false) : exOf x ≠ 2047 := by
  intro h
  have hr : x % 2 ^ 63 ≥ 2047 * 2 ^ 52 := by
    have a1 : (2 : Nat) ^ 63 = 9223372036854775808 := by decide
    have a2 : 2047 * (2 : Nat) ^ 52 = 9218868437227405312 := by decide
    rw [a1, a2]; unfold exOf at h; omega
  have key : ∀ y : Nat, F64.read y = .infinity false → isInf y = true := by
    intro y hy
    unfold isInf Ieee.Format.order
    rw [hy]; decide
  have hnr := read_neg x
  rcases read_cases hn with ⟨s, e⟩ | ⟨s, m, i, e⟩
  · cases s
    · rw [key x e] at hp; cases hp
    · rw [e] at hnr
      rw [key (negM x) hnr] at hm; cases hm
  · unfold Ieee.Format.read at e
    simp only [f_sign, f_binade, f_inf] at e
    rw [if_neg (by omega), if_neg (by omega)] at e
    split at e <;> cases e
theorem strOf_list (xs : List Int) : (strOf xs).data.toList = xs.map fun n => UInt8.ofNat n.toNat := by
  have gen : ∀ (xs : List Int) (b : ByteArray), (xs.foldl (fun r n => r.push (UInt8.ofNat n.toNat)) b).data.toList = b.data.toList ++ xs.map fun n => UInt8.ofNat n.toNat := by
    intro xs
    induction xs with
    | nil => intro b; simp
    | cons x xs ih => intro b; rw [List.foldl_cons, ih]; simp [ByteArray.push]
  have := gen xs ByteArray.empty
  unfold strOf
  rw [this]; rfl
def okC (v : Int) : Prop := 0 ≤ v ∧ v < 128
instance decC (v : Int) : Decidable (okC v) := by unfold okC; infer_instance
theorem dgL_ok (d n : Nat) : ∀ v ∈ dgL d n, okC v := by
  intro v hv
  simp only [dgL, List.mem_map, List.mem_range] at hv
  obtain ⟨t, _, rfl⟩ := hv
  unfold okC; omega
theorem expoL_ok {x : Int} (h : x.natAbs < 1000) : (∀ v ∈ expoL x, okC v) ∧ (expoL x).length ≤ 4 := by
  unfold expoL
  simp only []
  refine ⟨fun v hv => ?_, ?_⟩
  · simp only [List.mem_cons] at hv
    rcases hv with rfl | hv
    · unfold okC; split <;> decide
    · split at hv
      · simp at hv; unfold okC; omega
      · split at hv
        · simp at hv; unfold okC; omega
        · simp at hv; unfold okC; omega
  · simp only [List.length_cons]
    split
    · simp
    · split <;> simp
theorem fmtG_ok {neg : Bool} {L : List Int} {dp : Int} (hL : ∀ v ∈ L, okC v) (hl : L.length ≤ 20) (hd : (dp - 1).natAbs < 1000) : (∀ v ∈ fmtG neg L dp, okC v) ∧ (fmtG neg L dp).length ≤ 100 := by
  have hs : (∀ v ∈ signL neg, okC v) ∧ (signL neg).length ≤ 1 := by cases neg <;> simp [signL, okC]
  have he : (∀ v ∈ expoL (if L = [] then 0 else dp - 1), okC v) ∧ (expoL (if L = [] then 0 else dp - 1)).length ≤ 4 := expoL_ok (by split <;> omega)
  have c48 : okC 48 := by decide
  unfold fmtG
  have main : (∀ v ∈ (if dp - 1 < -4 ∨ 6 ≤ dp - 1 then eForm L dp else fForm L dp), okC v) ∧ (if dp - 1 < -4 ∨ 6 ≤ dp - 1 then eForm L dp else fForm L dp).length ≤ 90 := by
    split
    · unfold eForm
      refine ⟨fun v hv => ?_, ?_⟩
      · simp only [List.mem_append] at hv
        rcases hv with ((hv | hv) | hv) | hv
        · split at hv
          · simp at hv; subst hv; decide
          · exact hL v (List.mem_of_mem_take hv)
        · split at hv
          · simp only [List.mem_cons] at hv
            rcases hv with rfl | hv
            · decide
            · exact hL v (List.mem_of_mem_drop hv)
          · simp at hv
        · simp at hv; subst hv; decide
        · exact he.1 v hv
      · have a1 : (if L = [] then [48] else List.take 1 L).length ≤ 1 := by split <;> simp <;> omega
        have a2 : (if 1 < L.length then 46 :: List.drop 1 L else []).length ≤ 21 := by split <;> simp <;> omega
        have a3 := he.2
        simp only [List.length_append, List.length_cons, List.length_nil]
        omega
    · rename_i hE
      unfold fForm
      refine ⟨fun v hv => ?_, ?_⟩
      · simp only [List.mem_append] at hv
        rcases hv with hv | hv
        · split at hv
          · simp only [List.mem_append] at hv
            rcases hv with hv | hv
            · exact hL v (List.mem_of_mem_take hv)
            · rw [List.eq_of_mem_replicate hv]; exact c48
          · simp at hv; subst hv; decide
        · split at hv
          · simp only [List.mem_cons, List.mem_append] at hv
            rcases hv with rfl | hv | hv
            · decide
            · rw [List.eq_of_mem_replicate hv]; exact c48
            · exact hL v (List.mem_of_mem_drop hv)
          · simp at hv
      · have a1 : (if 0 < dp then List.take dp.toNat L ++ List.replicate (dp.toNat - L.length) 48 else [48]).length ≤ 40 := by
          split
          · simp only [List.length_append, List.length_take, List.length_replicate]; omega
          · simp
        have a2 : (if dp < (L.length : Int) then 46 :: (List.replicate (-dp).toNat 48 ++ List.drop dp.toNat L) else []).length ≤ 50 := by
          split
          · simp only [List.length_cons, List.length_append, List.length_drop, List.length_replicate]; omega
          · simp
        rw [List.length_append]; omega
  refine ⟨fun v hv => ?_, ?_⟩
  · rcases List.mem_append.1 hv with hv | hv
    · exact hs.1 v hv
    · exact main.1 v hv
  · rw [List.length_append]; have := main.2; have := hs.2; omega
theorem LOf_ok (f : Nat) : (∀ v ∈ LOf f, okC v) ∧ (LOf f).length ≤ 20 := by
  refine ⟨fun v hv => dgL_ok _ _ v (List.mem_of_mem_take hv), ?_⟩
  have := ndg_le (short_lt (mmOf f) (eeOf f))
  unfold LOf
  rw [List.length_take, dgL_len]
  show min _ (ndg (short (mmOf f) (eeOf f)).1) ≤ 20
  omega
theorem txtF_ok {f : Nat} (hx : exOf f ≠ 2047) : (∀ v ∈ txtF f, okC v) ∧ (txtF f).length ≤ 100 := by
  unfold txtF
  split
  · exact fmtG_ok (by simp) (by simp) (by decide)
  · rename_i h0
    obtain ⟨h1, h2⟩ := LOf_ok f
    have hp := p_of (mt_of hx h0).1
    have hn := ndg_le (short_lt (mmOf f) (eeOf f))
    have hn2 : ndg (dOf f) ≤ 20 := hn
    refine fmtG_ok h1 h2 ?_
    unfold dpOf pOf; omega
/-- A point or an exponent? -/
def hasDE (l : List UInt8) : Bool := Lib.containsAny l [46, 101]
def textM (x : Nat) : ByteArray :=
  if isNaN x then ⟨#[78, 97, 78]⟩ else if isInf x then ⟨#[73, 78, 70]⟩ else if isInf (negM x) then ⟨#[45, 73, 78, 70]⟩
  else if hasDE (strOf (txtF x)).data.toList then strOf (txtF x) else strOf (txtF x) ++ ⟨#[46, 48]⟩
theorem txt_bytes {f : Nat} (hx : exOf f ≠ 2047) : (strOf (txtF f)).size ≤ 100 ∧ ∀ (j : Nat) b, (strOf (txtF f)).data.toList[j]? = some b → b.toNat < 128 := by
  obtain ⟨h1, h2⟩ := txtF_ok hx
  have e : (strOf (txtF f)).size = (txtF f).length := by
    show (strOf (txtF f)).data.toList.length = _
    rw [strOf_list, List.length_map]
  refine ⟨by omega, fun j b hb => ?_⟩
  rw [strOf_list, List.getElem?_map] at hb
  cases hv : (txtF f)[j]? with
  | none => rw [hv] at hb; cases hb
  | some v =>
    rw [hv] at hb
    simp only [Option.map_some, Option.some.injEq] at hb
    have := h1 v (List.mem_of_getElem? hv)
    unfold okC at this
    subst hb
    rw [UInt8.toNat_ofNat']
    omega
theorem ok16' {x : Nat} {R : ByteArray → Prop} (hx : x < 18446744073709551616) (r : R (textM x)) : Ok16 x R := by
  apply ok16; unfold T16
  rw [order_ne]
  unfold textM at r
  refine cnd_b (fun h => ?_) fun h => ok29p (cnd_b (fun h2 => ?_) fun h2 => ok29n (cnd_b (fun h3 => ?_) fun h3 => ?_))
  · rw [if_pos h] at r; exact r
  · rw [if_neg (by rw [h]; decide), if_pos h2] at r; exact r
  · rw [if_neg (by rw [h]; decide), if_neg (by rw [h2]; decide), if_pos h3] at r; exact r
  rw [if_neg (by rw [h]; decide), if_neg (by rw [h2]; decide), if_neg (by rw [h3]; decide)] at r
  have hf := fin_of h h2 h3
  obtain ⟨b1, b2⟩ := txt_bytes hf
  refine ok33' hx hf (ok34' (by omega) (by decide) b2 (by intro j b hb; match j, hb with | 0, hb => simp at hb; subst hb; decide | 1, hb => simp at hb; subst hb; decide | j + 2, hb => simp at hb) ?_)
  refine ⟨fun t => t = (if hasDE (strOf (txtF x)).data.toList then strOf (txtF x) else strOf (txtF x) ++ ⟨#[46, 48]⟩), cnd_not (fun hh => ⟨?_, ?_⟩) fun hh => ?_, ?_⟩
  · have : (⟨#[46, 48]⟩ : ByteArray).size = 2 := rfl
    omega
  · have hh : hasDE (strOf (txtF x)).data.toList = false := hh
    rw [hh]; rfl
  · have hh : hasDE (strOf (txtF x)).data.toList = true := hh
    rw [hh]; rfl
  · rintro _ rfl; exact r
end Go.Proofs.YtfjflbapojgbhaaGreatDoor.N
