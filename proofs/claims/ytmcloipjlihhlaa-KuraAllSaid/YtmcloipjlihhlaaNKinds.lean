/- Each kind of net, by the program and by the document: the same. Conditions: none. -/
import Derived.Test.YtmcloipjlihhlaaTKind
import Derived.Test.YtmcloipjlihhlaaTMakerL
import Derived.Test.YtmcloipjlihhlaaNNames
import Derived.Test.YtmcloipjlihhlaaNMade
set_option linter.unusedSimpArgs false
set_option linter.unusedVariables false
namespace Go.Proofs.Ytmcloipjlihhlaa.N
open Go.X Go.Proofs.Ytmcloipjlihhlaa
set_option maxRecDepth 100000

theorem okToo1 {a : Int} {R : Bool → Prop} (h : R (decide (a > 4096))) : Ok128 [a] R := by
  apply ok128
  unfold T128
  refine ⟨fun i => i = 0 ∨ (i = 1 ∧ ¬ a > 4096), fun i => (2 - i).toNat, .inl rfl, ?_⟩
  rintro i (rfl | ⟨rfl, q⟩)
  · refine cnd_dec (fun _ => ⟨by decide, by simp, fun x hx => ?_⟩) fun q => absurd (by simp) q
    obtain rfl : a = x := Option.some.inj hx
    refine cnd_dec (fun q => ?_) fun q => ?_
    · rw [decide_eq_true q] at h; exact h
    · exact ⟨.inr ⟨by decide, q⟩, by decide⟩
  · refine cnd_dec (fun q2 => absurd q2 (by simp)) fun _ => ?_
    rw [decide_eq_false q] at h; exact h
theorem okMadeR {n : Int} {es : Es} {R : Int → Es → Int → Prop} (bad : mayB n es = false → R 0 [] 3) (good : mayB n es = true → R n es 0) : Ok129 n es R := by
  apply ok129
  unfold T129
  exact okMayR (cnd_not bad good)
theorem may_yes {n : Int} {es : Es} (h0 : 0 ≤ n) (h1 : n ≤ 1024) (hl : es.length ≤ 3072) (h : ∀ x ∈ es, (0 ≤ x.1 ∧ x.1 < n) ∧ 0 ≤ x.2 ∧ x.2 < n) : mayB n es = true :=
  mayB_iff.2 ⟨⟨h0, h1⟩, hl, fun x hx => endB_iff.2 (h x hx)⟩
theorem may_big {n : Int} {es : Es} (h : 1024 < n) : mayB n es = false := by
  rw [← Bool.not_eq_true]; intro q
  have := (mayB_iff.1 q).1; omega
theorem may_long {n : Int} {es : Es} (h : 3072 < es.length) : mayB n es = false := by
  rw [← Bool.not_eq_true]; intro q
  have := (mayB_iff.1 q).2.1; omega
theorem memR {f : Nat → Int × Int} {n : Nat} {x : Int × Int} (h : x ∈ rangeE f n) : ∃ i, i < n ∧ f i = x := by
  unfold rangeE at h
  obtain ⟨i, hi, e⟩ := List.mem_map.1 h
  exact ⟨i, List.mem_range.1 hi, e⟩
theorem memRows {f : Nat → List (Int × Int)} {x : Int × Int} : ∀ {n : Nat}, x ∈ rowsE f n → ∃ i, i < n ∧ x ∈ f i
  | 0, h => by cases h
  | n + 1, h => by
    rw [rowsE] at h
    rcases List.mem_append.1 h with h | h
    · obtain ⟨i, hi, q⟩ := memRows h; exact ⟨i, by omega, q⟩
    · exact ⟨n, by omega, h⟩
abbrev K3 := Int × Es × Int
def sayK (R : Int → Es → Int → Prop) (k : K3) : Prop := R k.1 k.2.1 k.2.2
/-- What stands first in the document's text. -/
theorem pre {Q1 : Int → Prop → Prop} {Q2 : Prop} {x0 : Bool} {W : (Int → Int → Es → Prop) → Bool → Prop} (c : Int) (hx : ∀ J : Int → Int → Es → Prop, J c 0 [] → W J x0) (h : ∃ Jv : Prop, Q1 c Jv ∧ (Jv → Q2)) :
    ∃ Jv2 : Int → Int → Es → Prop, (∃ Jv8 : Bool → Prop, Jv8 x0 ∧ ∀ x3 : Bool, Jv8 x3 → W Jv2 x3) ∧ ∀ (least2 c0 : Int) (c1 : Es), Jv2 least2 c0 c1 → ∃ Jv10 : Prop, Q1 least2 Jv10 ∧ (Jv10 → Q2) :=
  ⟨fun l _ _ => l = c, ⟨fun b => b = x0, rfl, fun b e => e ▸ hx _ rfl⟩, fun l _ _ e => e ▸ h⟩
end Go.Proofs.Ytmcloipjlihhlaa.N
