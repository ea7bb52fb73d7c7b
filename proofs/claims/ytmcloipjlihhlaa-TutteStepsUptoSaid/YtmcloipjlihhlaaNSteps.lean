/- TutteSteps. Conditions: none. -/
import Derived.Test.YtmcloipjlihhlaaNBegun
namespace Go.Proofs.Ytmcloipjlihhlaa.N
open Go.X Go.Proofs.Ytmcloipjlihhlaa
set_option maxRecDepth 100000

theorem roundsI_add (es : Es) (held : List Bool) (at' : Spots) (k : Nat) : ∀ n, roundsI es held (roundsI es held at' k) n = roundsI es held at' (k + n)
  | 0 => rfl
  | n + 1 => by
    rw [roundsI, roundsI_add es held at' k n]
    rfl
theorem stepM_held {es : Es} {held : List Bool} {now : Spots} {v : Nat} (h : held.getD v false = true) : (stepM es held now)[v]? = now[v]? := by
  by_cases hv : v < now.length
  · rw [stepM_get hv, stepAt, h, Bool.true_or, if_pos rfl]
    simp [List.getD, List.getElem?_eq_getElem hv]
  · rw [List.getElem?_eq_none (by rw [stepM_len]; omega), List.getElem?_eq_none (by omega)]
theorem roundsI_held {es : Es} {held : List Bool} {at' : Spots} {v : Nat} (h : held.getD v false = true) : ∀ k, (roundsI es held at' k)[v]? = at'[v]?
  | 0 => rfl
  | k + 1 => by rw [roundsI, stepM_held h, roundsI_held h k]
theorem roundsI_all {es : Es} {at' : Spots} {n : Nat} (hn : at'.length ≤ n) (k : Nat) : roundsI es (List.replicate n true) at' k = at' := by
  apply List.ext_getElem?
  intro i
  by_cases hi : i < at'.length
  · exact roundsI_held (by simp [List.getD, show i < n by omega]) k
  · rw [List.getElem?_eq_none (by rw [roundsI_len]; omega), List.getElem?_eq_none (by omega)]
theorem roundsR_ok {g : Int} {es : Es} {at' : Spots} {held : List Bool} {k : Int} (hm : mayB g es = true) (ha : (at'.length : Int) = g) (hh : (held.length : Int) = g) (hk : 0 ≤ k) (hk2 : k ≤ 40) (hg : g ≤ 60) (he : es.length ≤ 60) :
    roundsR g es at' held k = (roundsI es held at' k.toNat, 0) := by
  have hb : 0 ≤ g + 2 * (es.length : Int) ∧ g + 2 * (es.length : Int) ≤ 200 := by omega
  have hm2 : k * (g + 2 * (es.length : Int)) ≤ 40 * 200 := Int.mul_le_mul (by omega) hb.2 hb.1 (by omega)
  have e1 : decide (k < 0) = false := by simpa using hk
  have e2 : decide (k > 4096) = false := by simp; omega
  have e3 : decide (k * (g + 2 * (es.length : Int)) > 16777216) = false := by simp; omega
  unfold roundsR
  rw [hm, ha, hh, e1, e2, e3]
  simp
theorem roundsR_bad {g : Int} {es : Es} {at' : Spots} {held : List Bool} {k : Int} (h : ¬ ((at'.length : Int) = g ∧ (held.length : Int) = g)) : roundsR g es at' held k = ([], 1) := by
  unfold roundsR
  by_cases h1 : (at'.length : Int) = g
  · have h2 : ((held.length : Int) != g) = true := by simp; exact fun q => h ⟨h1, q⟩
    simp [h2]
  · have h2 : ((at'.length : Int) != g) = true := by simpa using h1
    simp [h2]
def allT (g j : Nat) : List Bool := List.replicate j true ++ List.replicate (g - j) false
theorem allT_set {g j : Nat} (h : j < g) : (allT g j).set j true = allT g (j + 1) := by
  unfold allT
  rw [List.set_append_right _ _ (by simp), List.length_replicate, Nat.sub_self]
  obtain ⟨d, hd⟩ : ∃ d, g - j = d + 1 := ⟨g - j - 1, by omega⟩
  rw [hd, List.replicate_succ, List.set_cons_zero, List.replicate_succ' (n := j), show g - (j + 1) = d by omega]
  simp
theorem okSteps {g k n : Int} {es : Es} {us : List Int} {held : List Bool} {R : Bool → Prop} (hu : us.length ≤ 100000000) (h : R true) : Ok7 g es us held k n R := by
  apply ok7
  unfold T7
  refine okBegun (cnd_not (fun q => absurd q (by decide)) fun _ => ⟨True, okMayR (cnd_not (fun _ => trivial) fun hm => cnd_dec (fun _ => trivial) fun h1 => cnd_dec (fun _ => trivial) fun h2 => cnd_dec (fun _ => trivial) fun h3 => cnd_dec (fun _ => trivial) fun h4 => cnd_dec (fun _ => trivial) fun h5 => cnd_dec (fun _ => h) fun h6 => ?_), fun _ => h⟩)
  refine okSpots hu (okRounds ?_)
  by_cases hok : (((spotsOf us).length : Int) = g ∧ (held.length : Int) = g)
  case neg =>
    rw [roundsR_bad hok]
    exact cnd_b (fun _ => cnd_b (fun _ => h) (fun q => absurd q (by decide))) (fun q => absurd q (by decide))
  obtain ⟨ha, hh⟩ := hok
  generalize spotsOf us = at' at *
  have m := mayN hm
  have m0 := m.g0
  rw [roundsR_ok hm ha hh (by omega) (by omega) (by omega) (by omega)]
  refine cnd_b (fun q => by simp at q) fun _ => okRounds ?_
  rw [roundsR_ok hm (by rw [roundsI_len]; exact ha) hh (by omega) (by omega) (by omega) (by omega)]
  rw [wr (by omega) (by omega)]
  refine okRounds ?_
  rw [roundsR_ok hm ha hh (by omega) (by omega) (by omega) (by omega)]
  have hl1 := roundsI_len es held at' (k + n).toNat
  refine ⟨by omega, by omega, fun v x => ∃ j : Nat, v = j ∧ (j : Int) ≤ g ∧ x = allT g.toNat j, fun v _ => (g - v).toNat, ⟨0, rfl, by omega, by simp [allT]⟩, ?_⟩
  rintro _ _ ⟨j, rfl, hj, rfl⟩
  refine cnd_dec (fun hlt => ?_) fun hlt => ?_
  · refine ⟨fun x => x = allT g.toNat (j + 1), ⟨by omega, by omega, by omega, by omega, fun hd hhd => ?_⟩, ?_⟩
    · rw [Int.toNat_natCast] at hhd ⊢
      rw [allT_set (by omega)]
      refine cnd_b (fun q => ⟨by omega, by dsimp only; omega, fun x hx => ⟨by omega, by omega, fun y hy => ?_⟩⟩) fun _ => rfl
      have hx : (roundsI es held at' (k + n).toNat)[j]? = some x := hx
      rw [roundsI_held (by simp [List.getD, hhd, q])] at hx
      rw [hx] at hy
      obtain rfl := Option.some.inj hy
      exact okBits (cnd_not (fun q => absurd q (by simp)) fun _ => okBits (cnd_not (fun q => absurd q (by simp)) fun _ => rfl))
    · rintro _ rfl
      rw [wr (by omega) (by omega)]
      exact ⟨⟨j + 1, by simp, by omega, rfl⟩, by dsimp only; omega⟩
  · have hjg : j = g.toNat := by omega
    subst hjg
    have e : allT g.toNat g.toNat = List.replicate g.toNat true := by simp [allT]
    rw [e]
    refine okRounds ?_
    rw [roundsR_ok hm ha (by simp; omega) (by omega) (by omega) (by omega) (by omega)]
    refine okRounds ?_
    rw [roundsR_ok hm ha hh (by omega) (by omega) (by omega) (by omega)]
    have q1 : (roundsI es held (roundsI es held at' k.toNat) n.toNat == roundsI es held at' (k + n).toNat) = true := by
      rw [roundsI_add, show k.toNat + n.toNat = (k + n).toNat by omega]; simp
    have q2 : (roundsI es (List.replicate g.toNat true) at' n.toNat == at') = true := by rw [roundsI_all (by omega)]; simp
    have q3 : (roundsI es held at' (Int.toNat 0) == at') = true := by simp [roundsI]
    refine ⟨False, cnd_b (fun _ => cnd_b (fun _ => cnd_b (fun _ => cnd_b (fun _ => okEq (by simp only [roundsI_len]; omega) ?_) (fun q => by simp at q)) (fun q => by simp at q)) (fun q => by simp at q)) (fun q => by simp at q), False.elim⟩
    rw [q1]
    refine cnd_b (fun _ => okEq (by simp only [roundsI_len]; omega) ?_) (fun q => absurd q (by decide))
    rw [q2]
    refine cnd_b (fun _ => okEq (by simp only [roundsI_len]; omega) ?_) (fun q => absurd q (by decide))
    rw [q3]
    exact h
end Go.Proofs.Ytmcloipjlihhlaa.N
namespace Go.Proofs.Ytmcloipjlihhlaa
open Go.X in
theorem TutteSteps_ok {g k n : Int} {es : List (Int × Int)} {us : List Int} {held : List Bool} {h : Heap} {a0 a1 a2 : Option Addr} {l0 l1 l2 c0 c1 c2 : Nat} (_ : es.length ≤ 1048576) (hu : us.length ≤ 1048576) (_ : held.length ≤ 1048576)
    (hp : Hp h [Ck.vw eP a0 l0 c0 es, Ck.vw (eK .u64) a1 l1 c1 us, Ck.vw eB a2 l2 c2 held]) :
    CallsH Try.prog 7 #[.agg #[.int .i64 g, .slice a0 l0 c0], .slice a1 l1 c1, .slice a2 l2 c2, .int .i64 k, .int .i64 n] h fun v h' => Fr [] h h' ∧ v = .bool true :=
  (N.okSteps (R := fun b => b = true) (by omega) rfl h _ _ _ _ _ _ _ _ _ hp).mono fun _ _ ⟨_, Y, e, q⟩ => ⟨Y.fr, q ▸ e⟩
end Go.Proofs.Ytmcloipjlihhlaa
