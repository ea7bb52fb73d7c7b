/- ParseFloat of a number's text of at most 19 digits that count, as a function. Conditions: none. -/
import Derived.Test.YtfjflbapojgbhaaGreatDoorWExact
namespace Go.Proofs.YtfjflbapojgbhaaGreatDoor.N
open Go.X Go.Proofs.YtfjflbapojgbhaaGreatDoor
set_option maxRecDepth 100000
set_option maxHeartbeats 1000000

def sgnN (ng : Bool) : Nat := if ng then 9223372036854775808 else 0
def atofV (m : Nat) (e : Int) (ng : Bool) : Nat × Option Int :=
  if m = 0 then ((bits .or .u64 (sgnN ng : Int) 0).toNat, none)
  else if e > 310 then ((bits .or .u64 (sgnN ng : Int) 9218868437227405312).toNat, some 1)
  else if e < -345 then ((bits .or .u64 (sgnN ng : Int) 0).toNat, none)
  else if (exactF m e ng).2 then ((exactF m e ng).1, none)
  else parse64 m e (sgnN ng)
/-- A number's text, and what the scan makes of it. -/
structure Txt (s : ByteArray) (st : RS) (rest : List UInt8) : Prop where
  sz : s.size < 100000
  hd : numHead s.data.toList
  ch : ∀ c ∈ s.data.toList, c ≠ 120 ∧ c ≠ 88 ∧ c ≠ 95
  sc : scan RS0 (s.data.toList.drop (sgnOf s.data.toList).2) = (st, rest)
  dig : st.dig = true
  rest : rest = [] ∨ ∃ c sg ds, Expo rest c sg ds
theorem scan_lt {l : List UInt8} {st : RS} {rest : List UInt8} : ∀ {a : RS}, a.nm ≤ 19 → a.m < 10 ^ a.nm → scan a l = (st, rest) → st.m < 10000000000000000000 := by
  induction l with
  | nil =>
    intro a h1 h2 h
    simp only [scan, Prod.mk.injEq] at h
    rw [← h.1]
    have := Nat.pow_le_pow_right (n := 10) (by decide) h1
    omega
  | cons c r ih =>
    intro a h1 h2 h
    have stop : a.m < 10000000000000000000 := by
      have := Nat.pow_le_pow_right (n := 10) (by decide) h1
      omega
    simp only [scan] at h
    split at h
    · split at h
      · simp only [Prod.mk.injEq] at h; rw [← h.1]; exact stop
      · exact ih (a := dotS a) h1 h2 h
    · split at h
      · rename_i hd
        have hd := isD_iff.1 hd
        refine ih (a := stepD a (c.toNat - 48)) ?_ ?_ h
        · unfold stepD; split
          · exact h1
          · split
            · show a.nm + 1 ≤ 19; omega
            · exact h1
        · unfold stepD; split
          · exact h2
          · split
            · show a.m * 10 + (c.toNat - 48) < 10 ^ (a.nm + 1); rw [Nat.pow_succ]; omega
            · exact h2
      · simp only [Prod.mk.injEq] at h; rw [← h.1]; exact stop
theorem ok55' {s : ByteArray} {st : RS} {rest : List UInt8} {R : Nat → Int → Option Int → Prop} (h : Txt s st rest) (ht : st.tr = false)
    (r : R (atofV st.m (expV st rest) (sgnOf s.data.toList).1).1 s.size (atofV st.m (expV st rest) (sgnOf s.data.toList).1).2) : Ok55 s R := by
  apply ok55
  unfold T55
  have h0 : 0 < s.size := by
    obtain ⟨c, l, hl, _⟩ := h.hd
    show 0 < s.data.toList.length
    rw [hl]; simp
  refine ok78' h.sz h.hd (cnd_f rfl (ok79' h0 h.sz h.ch h.sc h.dig h.rest ?_))
  have hm := scan_lt (a := RS0) (by decide) (by decide) h.sc
  rw [ht]
  generalize expV st rest = e at *
  generalize (sgnOf s.data.toList).1 = ng at *
  have esz : ((s.data.toList.length : Nat) : Int) = (s.size : Int) := rfl
  rw [esz]
  refine cnd_f rfl (cnd_f rfl ⟨False, cnd_t rfl (ok87' ?_), fun h => h⟩)
  have esg : IntKind.u64.wrap (((if ng = true then 1 else 0 : Nat) : Int) * 2 ^ min (Int.toNat 63) 64) = (sgnN ng : Int) := by
    cases ng <;> decide
  rw [esg]
  unfold atofV at r
  refine ⟨by decide, cnd_eq (fun hz => ?_) fun hz => ?_⟩
  · rw [if_pos (by omega)] at r
    exact callE_of (from88 _) ⟨_, rfl, r⟩
  rw [if_neg (by omega)] at r
  refine cnd_dec (fun hb => ?_) fun hb => ?_
  · rw [if_pos hb] at r
    exact callE_of (from88 _) ⟨_, rfl, r⟩
  rw [if_neg hb] at r
  refine cnd_dec (fun hc => ?_) fun hc => ?_
  · rw [if_pos hc] at r
    exact callE_of (from88 _) ⟨_, rfl, r⟩
  rw [if_neg hc] at r
  refine ⟨(exactF st.m e ng).2 = false, cnd_t rfl (ok89' (by omega) (by omega) (by omega) (cnd_b (fun hx => ?_) fun hx => hx)), fun hx => ?_⟩
  · rw [if_pos hx] at r; exact r
  · rw [if_neg (by rw [hx]; decide)] at r
    refine ok90' (by omega) (by omega) (by omega) (by omega) ⟨fun he => cnd_t rfl ?_, fun c he => cnd_t rfl ?_⟩
    · rw [he] at r; exact r
    · rw [he] at r; exact r
theorem ok37' {s : ByteArray} {st : RS} {rest : List UInt8} {R : Nat → Option Int → Prop} (h : Txt s st rest) (ht : st.tr = false)
    (r : R (atofV st.m (expV st rest) (sgnOf s.data.toList).1).1 (atofV st.m (expV st rest) (sgnOf s.data.toList).1).2) : Ok37 s 64 R := by
  apply ok37
  unfold T37
  apply ok43
  unfold T43
  refine cnd_f (by decide) (ok55' h ht ?_)
  generalize atofV st.m (expV st rest) (sgnOf s.data.toList).1 = v at *
  obtain ⟨x, e⟩ := v
  have r : R x e := r
  show (e = none → _) ∧ ∀ c : Int, e = some c → _
  refine ⟨fun he => ?_, fun c he => ?_⟩
  · subst he
    exact ⟨fun _ => cnd_f (by simp) r, fun c hc => by cases hc⟩
  · subst he
    exact ⟨fun hc => (by cases hc), fun c2 hc => cnd_f (by simp) (by rw [← hc]; exact r)⟩
end Go.Proofs.YtfjflbapojgbhaaGreatDoor.N
