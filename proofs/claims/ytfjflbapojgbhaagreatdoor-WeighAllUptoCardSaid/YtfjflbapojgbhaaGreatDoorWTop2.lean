/- Reading numbers: the form, the value, and the refusals. Conditions: none. -/
import Derived.Test.YtfjflbapojgbhaaGreatDoorWTop1
namespace Go.Proofs.YtfjflbapojgbhaaGreatDoor.N
open Go.X Go.Proofs.YtfjflbapojgbhaaGreatDoor
open Go.RowKit (Below)
set_option maxRecDepth 100000
set_option maxHeartbeats 1000000

theorem toL (s : ByteArray) : s.toList = s.data.toList := Lib.toList_data s
theorem toLe (s : ByteArray) : (s.toList == (⟨#[]⟩ : ByteArray).toList) = s.data.toList.isEmpty := by
  rw [toL, toL]
  cases s.data.toList <;> rfl
def dropS (l : List UInt8) : List UInt8 :=
  match l with
  | c :: r => if c = 43 ∨ c = 45 then r else c :: r
  | [] => []
def dgN (l : List UInt8) : Nat := (l.takeWhile isD).length
theorem ext1 {s : ByteArray} {k : Nat} : (s.extract k s.size).data.toList = s.data.toList.drop k := by
  rw [extB, List.take_of_length_le (show s.data.toList.length ≤ s.size from Nat.le_refl _)]
theorem ok35' {s : ByteArray} {R : ByteArray → Prop} (r : ∀ t : ByteArray, t.data.toList = dropS s.data.toList → R t) : Ok35 s R := by
  apply ok35; unfold T35
  rw [toLe]
  cases hl : s.data.toList with
  | nil => exact ⟨True, cnd_f rfl trivial, fun _ => r s (by rw [hl]; rfl)⟩
  | cons c l =>
    have h0 : 0 < s.size := by show 0 < s.data.toList.length; rw [hl]; simp
    have hc : s[Int.toNat 0]? = some c := by rw [getB, hl]; rfl
    have hd : (s.extract (Int.toNat 1) s.size).data.toList = l := by rw [show Int.toNat 1 = 1 from rfl, ext1, hl]; rfl
    refine ⟨¬ (c = 43 ∨ c = 45), cnd_t rfl ⟨by decide, by omega, c, hc, cnd_eq (fun h => ⟨by decide, by omega, r _ ?_⟩) fun h => ⟨by decide, by omega, c, hc, cnd_eq (fun h2 => ⟨by decide, by omega, r _ ?_⟩) fun h2 => ?_⟩⟩, fun hJ => r s ?_⟩
    · rw [hd, hl]; show l = if c = 43 ∨ c = 45 then l else c :: l; rw [if_pos (.inl (eqB.1 h))]
    · rw [hd, hl]; show l = if c = 43 ∨ c = 45 then l else c :: l; rw [if_pos (.inr (eqB.1 h2))]
    · rintro (e | e)
      · exact h (eqB.2 e)
      · exact h2 (eqB.2 e)
    · rw [hl]; show c :: l = if c = 43 ∨ c = 45 then l else c :: l; rw [if_neg hJ]
theorem dgN_le (l : List UInt8) : dgN l ≤ l.length := by
  unfold dgN; exact (List.takeWhile_sublist isD).length_le
theorem ok36' {s : ByteArray} (hs : s.size < 1000000000000) {R : Int → Prop} (r : R (dgN s.data.toList : Int)) : Ok36 s R := by
  apply ok36; unfold T36
  have hsz : s.size = s.data.toList.length := rfl
  refine ⟨fun n => n = (dgN s.data.toList : Int), ⟨fun i => ∃ k : Nat, i = k ∧ k ≤ s.data.toList.length ∧ dgN s.data.toList = k + dgN (s.data.toList.drop k), fun i => s.size - i.toNat, ⟨0, rfl, Nat.zero_le _, by simp⟩, ?_⟩, fun _ h => h ▸ r⟩
  rintro _ ⟨k, rfl, hk, hd⟩
  by_cases hlt : k < s.data.toList.length
  · have hdr : s.data.toList.drop k = s.data.toList[k] :: s.data.toList.drop (k + 1) := List.drop_eq_getElem_cons hlt
    have hat : s[Int.toNat (k : Int)]? = some s.data.toList[k] := by rw [getB, Int.toNat_natCast, List.getElem?_eq_getElem hlt]
    generalize s.data.toList[k] = c at *
    rw [hdr] at hd
    by_cases hc : isD c = true
    · have hc2 := isD_iff.1 hc
      have hd2 : dgN s.data.toList = (k + 1) + dgN (s.data.toList.drop (k + 1)) := by
        rw [hd]; unfold dgN; rw [List.takeWhile_cons, if_pos hc, List.length_cons]; omega
      have hw : IntKind.i64.wrap ((k : Int) + 1) = ((k + 1 : Nat) : Int) := by rw [wr (by omega) (by omega)]; omega
      refine ⟨False, cnd_dec (fun _ => ⟨by omega, by omega, c, hat, cnd_dec (fun _ => ⟨by omega, by omega, c, hat, cnd_dec (fun _ => ⟨⟨k + 1, hw, hlt, hd2⟩, ?_⟩) fun h => absurd (show ((c.toNat : Nat) : Int) ≤ 57 by omega) h⟩) fun h => absurd (show ((c.toNat : Nat) : Int) ≥ 48 by omega) h⟩) fun h => absurd (show (k : Int) < (s.size : Int) by omega) h, fun h => h.elim⟩
      dsimp only; rw [hw]; omega
    · have hc2 : ¬ (48 ≤ c.toNat ∧ c.toNat ≤ 57) := fun h => hc (isD_iff.2 h)
      have hd2 : (k : Int) = (dgN s.data.toList : Int) := by
        rw [hd]; unfold dgN; rw [List.takeWhile_cons, if_neg hc]; simp
      refine ⟨True, cnd_dec (fun _ => ⟨by omega, by omega, c, hat, cnd_dec (fun h1 => ⟨by omega, by omega, c, hat, cnd_dec (fun h2 => absurd (show 48 ≤ c.toNat ∧ c.toNat ≤ 57 by omega) hc2) fun _ => hd2⟩) fun _ => trivial⟩) fun _ => trivial, fun _ => hd2⟩
  · have hd2 : (k : Int) = (dgN s.data.toList : Int) := by
      rw [hd, List.drop_eq_nil_of_le (by omega)]; simp [dgN]
    exact ⟨True, cnd_dec (fun h => absurd h (by omega)) fun _ => trivial, fun _ => hd2⟩
/-- Behind a point, if there is one. -/
def pntF (l : List UInt8) : Option (List UInt8) :=
  match l with
  | [] => some []
  | c :: y => if c = 46 then (if dgN y = 0 then none else some (y.drop (dgN y))) else some (c :: y)
/-- The exponent, if there is one. -/
def expF (q : Option (List UInt8)) : Bool :=
  match q with
  | none => false
  | some [] => true
  | some (c :: t) => if c = 101 ∨ c = 69 then decide (1 ≤ (dropS t).length) && (decide ((dropS t).length ≤ 4) && decide (dgN (dropS t) = (dropS t).length)) else false
/-- Is it a number's text? -/
def numF (l : List UInt8) : Bool := if dgN (dropS l) = 0 then false else expF (pntF ((dropS l).drop (dgN (dropS l))))
theorem sz_le {t : ByteArray} {l : List UInt8} (h : t.data.toList = l) : t.size = l.length := by rw [← h]; rfl
theorem dropS_le (l : List UInt8) : (dropS l).length ≤ l.length := by
  unfold dropS; split
  · split <;> simp
  · simp
theorem ok27' {s : ByteArray} (hs : s.size < 1000000000) {R : Bool → Prop} (r : R (numF s.data.toList)) : Ok27 s R := by
  apply ok27; unfold T27
  refine ok35' fun t ht => ?_
  have hst := sz_le ht
  have hle := dropS_le s.data.toList
  have hsl : s.size = s.data.toList.length := rfl
  refine ok36' (by omega) ?_
  rw [ht]
  unfold numF at r
  generalize dropS s.data.toList = l at *
  have hn := dgN_le l
  refine cnd_eq (fun h => ?_) fun h => ?_
  · rw [if_pos (by omega)] at r; exact r
  rw [if_neg (by omega)] at r
  have hx : (t.extract (Int.toNat (dgN l : Int)) t.size).data.toList = l.drop (dgN l) := by rw [Int.toNat_natCast, ext1, ht]
  generalize hX : t.extract (Int.toNat (dgN l : Int)) t.size = X at *
  have hXs := sz_le hx
  have hXl : (l.drop (dgN l)).length ≤ l.length := by rw [List.length_drop]; omega
  refine ⟨by omega, by omega, fun u => pntF (l.drop (dgN l)) = some u.data.toList, ?_, ?_⟩
  · rw [toLe, hx]
    generalize l.drop (dgN l) = y at *
    cases y with
    | nil => exact cnd_f rfl (by show pntF [] = some X.data.toList; rw [hx]; rfl)
    | cons c y =>
      refine cnd_t rfl ⟨by decide, by rw [hXs]; simp, c, by rw [getB, hx]; rfl, fun u => pntF (c :: y) = some u.data.toList, cnd_eq (fun h46 => ?_) fun h46 => ?_, fun _ h => h⟩
      · have hc : c = 46 := eqB.1 h46
        subst hc
        have hp : pntF (46 :: y) = if dgN y = 0 then none else some (y.drop (dgN y)) := rfl
        rw [hp] at r ⊢
        have hx1 : (X.extract (Int.toNat 1) X.size).data.toList = y := by rw [show Int.toNat 1 = 1 from rfl, ext1, hx]; rfl
        have hx1s := sz_le hx1
        have hyl : y.length < 1000000000 := by simp at hXl; omega
        have hdy := dgN_le y
        have hX1 : X.size = y.length + 1 := by rw [hXs]; simp
        refine ⟨by decide, by omega, ok36' (by omega) ?_⟩
        rw [hx1]
        refine cnd_eq (fun hz => ?_) fun hz => ?_
        · rw [if_pos (show dgN y = 0 by omega)] at r; exact r
        · have hw : IntKind.i64.wrap (1 + (dgN y : Int)) = ((1 + dgN y : Nat) : Int) := by rw [wr (by omega) (by omega)]; omega
          rw [hw, if_neg (show ¬ dgN y = 0 by omega)]
          refine ⟨by omega, by omega, ?_⟩
          rw [Int.toNat_natCast]; dsimp only; rw [ext1, hx, Nat.add_comm]; rfl
      · have hc : c ≠ 46 := fun e => h46 (eqB.2 e)
        show (if c = 46 then (if dgN y = 0 then none else some (y.drop (dgN y))) else some (c :: y)) = some X.data.toList
        rw [if_neg hc, hx]
  · intro u hu
    rw [hu] at r
    rw [toLe]
    have hul : u.data.toList.length ≤ l.length := by
      have gen : ∀ z w : List UInt8, pntF z = some w → w.length ≤ z.length := by
        intro z w h
        unfold pntF at h
        split at h
        · cases h; exact Nat.le_refl _
        · split at h
          · split at h
            · cases h
            · cases h; rw [List.length_drop, List.length_cons]; omega
          · cases h; exact Nat.le_refl _
      exact Nat.le_trans (gen _ _ hu) hXl
    have hus : u.size = u.data.toList.length := rfl
    cases hl2 : u.data.toList with
    | nil => rw [hl2] at r; exact cnd_t rfl r
    | cons c y =>
      rw [hl2] at r hul
      have r : R (if c = 101 ∨ c = 69 then decide (1 ≤ (dropS y).length) && (decide ((dropS y).length ≤ 4) && decide (dgN (dropS y) = (dropS y).length)) else false) := r
      have hc0 : u[Int.toNat 0]? = some c := by rw [getB, hl2]; rfl
      have h0 : (0 : Int) < ((u.size : Nat) : Int) := by rw [hus, hl2]; simp
      refine cnd_f rfl ⟨c = 101 ∨ c = 69, ⟨by decide, h0, c, hc0, cnd_ne (fun h1 => ⟨by decide, h0, c, hc0, cnd_ne (fun h2 => ?_) fun h2 => .inr (eqB.1 h2)⟩) fun h1 => .inl (eqB.1 h1)⟩, fun hE => ?_⟩
      · rw [if_neg (by rintro (e | e); exact h1 (eqB.2 e); exact h2 (eqB.2 e))] at r; exact r
      · rw [if_pos hE] at r
        refine ⟨by decide, by omega, ok35' fun v hv => ?_⟩
        rw [show Int.toNat 1 = 1 from rfl, ext1, hl2] at hv
        have hv : v.data.toList = dropS y := hv
        have hvs := sz_le hv
        have hvl := dropS_le y
        simp only [List.length_cons] at hul
        refine cnd_dec (fun h1 => cnd_dec (fun h4 => ok36' (by omega) ?_) fun h4 => ?_) fun h1 => ?_
        · rw [hv]
          have : ((dgN (dropS y) : Int) == ((v.size : Nat) : Int)) = decide (dgN (dropS y) = (dropS y).length) := by
            rw [Bool.eq_iff_iff]; simp; omega
          rw [this]
          rw [decide_eq_true (show 1 ≤ (dropS y).length by omega), decide_eq_true (show (dropS y).length ≤ 4 by omega)] at r
          exact r
        · rw [decide_eq_false (show ¬ (dropS y).length ≤ 4 by omega), Bool.false_and, Bool.and_false] at r
          exact r
        · rw [decide_eq_false (show ¬ 1 ≤ (dropS y).length by omega), Bool.false_and] at r
          exact r
end Go.Proofs.YtfjflbapojgbhaaGreatDoor.N
