/- What is told of special texts: a number's text is none; exact answers by floats. Conditions: none. -/
import Derived.Test.YtfjflbapojgbhaaGreatDoorWRead2
namespace Go.Proofs.YtfjflbapojgbhaaGreatDoor.N
open Go.X Go.Proofs.YtfjflbapojgbhaaGreatDoor
set_option maxRecDepth 100000
set_option maxHeartbeats 1000000

theorem extB (s : ByteArray) (a b : Nat) : (s.extract a b).data.toList = (s.data.toList.take b).drop a := by
  rw [ByteArray.data_extract, Array.toList_extract]
  simp [List.drop_take]
theorem ok79' {s : ByteArray} {stF : RS} {rest : List UInt8} {R : Int → Int → Bool → Bool → Bool → Int → Bool → Prop} (h0 : 0 < s.size) (hs : s.size < 100000) (hc : ∀ c ∈ s.data.toList, c ≠ 120 ∧ c ≠ 88 ∧ c ≠ 95)
    (hsc : scan RS0 (s.data.toList.drop (sgnOf s.data.toList).2) = (stF, rest)) (hdig : stF.dig = true) (hrest : rest = [] ∨ ∃ c sg ds, Expo rest c sg ds)
    (r : R stF.m (expV stF rest) (sgnOf s.data.toList).1 stF.tr false s.data.toList.length true) : Ok79 s R := by
  refine ok79b h0 hs (fun c h => ⟨(hc c h).1, (hc c h).2.1⟩) (readTail hs (fun c h => (hc c h).2.2) ?_ hsc hdig hrest r)
  have hl : 1 ≤ s.data.toList.length := h0
  unfold sgnOf
  split
  · split
    · exact hl
    · split
      · exact hl
      · exact Nat.zero_le _
  · exact Nat.zero_le _
theorem isD_iff {c : UInt8} : isD c = true ↔ 48 ≤ c.toNat ∧ c.toNat ≤ 57 := by simp [isD]
/-- Nothing of a word that a digit stands ahead of. -/
theorem ok114' {s p : ByteArray} {R : Int → Prop} (hs : ∀ c r, s.data.toList = c :: r → isD c = true) (hp : ∃ c r, p.data.toList = c :: r ∧ 58 ≤ c.toNat) (hsz : s.size < 100000) (r : R 0) : Ok114 s p R := by
  apply ok114
  unfold T114
  obtain ⟨q, pr, hpl, hq⟩ := hp
  have hps : 0 < p.size := by show 0 < p.data.toList.length; rw [hpl]; simp
  refine ⟨fun i => i = 0, fun _ => 0, rfl, ?_⟩
  rintro _ rfl
  cases hl : s.data.toList with
  | nil =>
    have h0 : s.size = 0 := by show s.data.toList.length = 0; rw [hl]; rfl
    have e : (if (((s.size : Nat)) : Int) < ((p.size : Nat) : Int) then ((s.size : Nat) : Int) else ((p.size : Nat) : Int)) = 0 := by rw [h0]; split <;> omega
    rw [e]
    exact cnd_f (by decide) r
  | cons c rest =>
    have h0 : 0 < s.size := by show 0 < s.data.toList.length; rw [hl]; simp
    have hd := isD_iff.1 (hs c rest hl)
    refine cnd_dec (fun _ => ?_) fun h => absurd h (by split <;> omega)
    refine ⟨by decide, by omega, c, by rw [getB, hl]; rfl, fun x => x = ((c.toNat : Nat) : Int), cnd_dec (fun h => absurd h (by omega)) fun _ => rfl, ?_⟩
    rintro _ rfl
    refine ⟨by decide, by omega, q, by rw [getB, hpl]; rfl, cnd_ne (fun _ => r) fun h => absurd h (by omega)⟩
/-- A number's text: a digit, or a sign and a digit. -/
def numHead (l : List UInt8) : Prop := ∃ c r, l = c :: r ∧ (isD c = true ∨ ((c = 43 ∨ c = 45) ∧ ∃ d r', r = d :: r' ∧ isD d = true))
theorem ok78' {s : ByteArray} {R : Nat → Int → Bool → Prop} (hs : s.size < 100000) (h : numHead s.data.toList) (r : R 0 0 false) : Ok78 s R := by
  apply ok78
  unfold T78
  obtain ⟨c, l, hl, hc⟩ := h
  have h0 : 0 < s.size := by show 0 < s.data.toList.length; rw [hl]; simp
  refine cnd_eq (fun h => absurd h (by omega)) fun _ => ⟨by decide, by omega, c, by rw [getB, hl]; rfl, True, ?_, fun _ => r⟩
  refine ⟨fun s2 _ _ => s2 = s.extract 1 s.size ∧ ∃ d r', l = d :: r' ∧ isD d = true, ⟨fun x => x = (decide (c = 43) || decide (c = 45)), cnd_eq (fun h => ?_) fun h => ?_, ?_⟩, ?_⟩
  · have : c = 43 := eqB.1 h
    subst this; rfl
  · by_cases h2 : c = 45
    · subst h2; rfl
    · have h1 : c ≠ 43 := fun e => h (eqB.2 e)
      rw [decide_eq_false h1, decide_eq_false h2]
      show (((c.toNat : Nat) : Int) == 45) = false
      rw [beq_eq_false_iff_ne]; exact fun e => h2 (eqB.1 e)
  · rintro _ rfl
    refine cnd_b (fun hb => ?_) fun hb => ?_
    · simp only [Bool.or_eq_true, decide_eq_true_eq] at hb
      have hd : ∃ d r', l = d :: r' ∧ isD d = true := by
        rcases hc with hc | hc
        · rcases hb with rfl | rfl <;> simp [isD] at hc
        · exact hc.2
      refine ⟨by decide, by omega, c, by rw [getB, hl]; rfl, fun _ => True, cnd_eq (fun _ => trivial) fun _ => trivial, fun _ _ => ⟨by decide, by omega, rfl, hd⟩⟩
    · simp only [Bool.or_eq_false_iff, decide_eq_false_iff_not] at hb
      have hd : 48 ≤ c.toNat ∧ c.toNat ≤ 57 := by
        rcases hc with hc | hc
        · exact isD_iff.1 hc
        · rcases hc.1 with e | e
          · exact absurd e hb.1
          · exact absurd e hb.2
      refine ⟨fun x => x = false, cnd_eq (fun h => absurd h (by omega)) fun _ => ?_, ?_⟩
      · dsimp only; rw [beq_eq_false_iff_ne]; omega
      rintro _ rfl
      refine cnd_f rfl ⟨fun x => x = false, cnd_eq (fun h => absurd h (by omega)) fun _ => ?_, ?_⟩
      · dsimp only; rw [beq_eq_false_iff_ne]; omega
      rintro _ rfl
      exact cnd_f rfl trivial
  · rintro _ sg ns ⟨rfl, d, r', hdl, hd⟩
    have el : (s.extract 1 s.size).data.toList = l := by
      rw [extB, hl, List.take_of_length_le (by rw [← hl]; exact Nat.le_refl _)]; rfl
    refine ok114' (fun c r e => ?_) ⟨105, _, rfl, by decide⟩ ?_ ?_
    · rw [el, hdl] at e; cases e; exact hd
    · show (s.extract 1 s.size).data.toList.length < _
      rw [el]
      have : s.size = l.length + 1 := by show s.data.toList.length = _; rw [hl]; rfl
      omega
    refine ⟨fun x => x = 0, cnd_dec (fun h => absurd h (by decide)) fun _ => rfl, ?_⟩
    rintro _ rfl
    exact cnd_f (by decide) (cnd_f (by decide) trivial)
end Go.Proofs.YtfjflbapojgbhaaGreatDoor.N
