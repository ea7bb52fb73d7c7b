/- Nets as plain data: which may be, half-edges, what leaves each node. Conditions: none. -/
import Derived.Test.YtmcloipjlihhlaaTMay
namespace Go.Proofs.Ytmcloipjlihhlaa.N
open Go.X Go.Proofs.Ytmcloipjlihhlaa
set_option maxRecDepth 100000

abbrev Es := List (Int × Int)
def endB (g : Int) (e : Int × Int) : Bool := decide (0 ≤ e.1) && decide (e.1 < g) && decide (0 ≤ e.2) && decide (e.2 < g)
/-- A net that may be. -/
def mayB (g : Int) (es : Es) : Bool := decide (0 ≤ g) && decide (g ≤ 1024) && decide (es.length ≤ 3072) && es.all (endB g)
theorem endB_iff {g : Int} {e : Int × Int} : endB g e = true ↔ (0 ≤ e.1 ∧ e.1 < g) ∧ 0 ≤ e.2 ∧ e.2 < g := by
  simp [endB]; omega
theorem mayB_iff {g : Int} {es : Es} : mayB g es = true ↔ (0 ≤ g ∧ g ≤ 1024) ∧ es.length ≤ 3072 ∧ ∀ e ∈ es, endB g e = true := by
  simp only [mayB, Bool.and_eq_true, decide_eq_true_eq, List.all_eq_true]
  exact ⟨fun ⟨⟨⟨a, b⟩, c⟩, d⟩ => ⟨⟨a, b⟩, c, d⟩, fun ⟨⟨a, b⟩, c, d⟩ => ⟨⟨⟨a, b⟩, c⟩, d⟩⟩
structure MayN (g : Int) (es : Es) : Prop where
  g0 : 0 ≤ g
  g1 : g ≤ 1024
  m : es.length ≤ 3072
  e : ∀ (i : Nat) (x : Int × Int), es[i]? = some x → (0 ≤ x.1 ∧ x.1 < g) ∧ 0 ≤ x.2 ∧ x.2 < g
theorem mayN {g : Int} {es : Es} (h : mayB g es = true) : MayN g es := by
  obtain ⟨⟨h1, h2⟩, h3, h4⟩ := mayB_iff.1 h
  exact ⟨h1, h2, h3, fun i x hx => endB_iff.1 (h4 x (List.mem_of_getElem? hx))⟩
theorem may_take {g : Int} {es : Es} {i : Nat} {x : Int × Int} (hx : es[i]? = some x) (h : (es.take i).all (endB g) = true) (hb : endB g x = true) : (es.take (i + 1)).all (endB g) = true := by
  rw [List.take_add_one, hx]
  simp only [List.all_append, h, Bool.true_and, Option.toList, List.all_cons, List.all_nil, Bool.and_true]
  exact hb
theorem may_no {g : Int} {es : Es} {i : Nat} {x : Int × Int} (hx : es[i]? = some x) (hb : endB g x = false) : mayB g es = false := by
  rw [← Bool.not_eq_true]
  intro h
  have := (mayB_iff.1 h).2.2 x (List.mem_of_getElem? hx)
  rw [hb] at this; cases this
theorem okMayR {g : Int} {es : Es} {R : Bool → Prop} (h : R (mayB g es)) : Ok43 g es R := by
  apply ok43
  unfold T43
  have no : mayB g es = false → R false := fun e => e ▸ h
  refine ⟨mayB g es = false, ?_, no⟩
  refine cnd_dec (fun h1 => by simp [mayB]; omega) fun h1 => cnd_dec (fun h2 => by simp [mayB]; omega) fun h2 => cnd_dec (fun h3 => no (by simp [mayB]; omega)) fun h3 => ?_
  refine ⟨fun i => ∃ k : Nat, i = k ∧ k ≤ es.length ∧ (es.take k).all (endB g) = true, fun i => ((es.length : Int) - i).toNat, ⟨0, rfl, by omega, by simp⟩, ?_⟩
  rintro _ ⟨k, rfl, hk, ha⟩
  refine cnd_dec (fun hlt => ?_) fun hlt => ?_
  · have hx : es[k]? = some (es[k]'(by omega)) := List.getElem?_eq_getElem (by omega)
    generalize es[k]'(by omega) = x at hx
    have small : ∀ j : Int, 0 ≤ j → j < 2 → (0 ≤ nth2 x j ∧ nth2 x j < g) ∨ endB g x = false := fun j _ _ => by
      by_cases hb : endB g x = true
      · have := endB_iff.1 hb
        left; unfold nth2; split <;> omega
      · right; simpa using hb
    refine ⟨fun j => ∃ n : Nat, j = n ∧ n ≤ 2 ∧ ∀ m : Int, 0 ≤ m → m < n → 0 ≤ nth2 x m ∧ nth2 x m < g, fun j => (2 - j).toNat, ⟨0, rfl, by omega, by omega⟩, ?_⟩
    rintro _ ⟨n, rfl, hn, hall⟩
    refine cnd_dec (fun hlt2 => ⟨by omega, hlt, by omega, by omega, fun y hy => ?_⟩) fun hlt2 => ?_
    · have hy : es[k]? = some y := by simpa using hy
      rw [hx] at hy; obtain rfl := Option.some.inj hy
      refine cnd_dec (fun h5 => no ?_) fun h5 => ⟨by omega, by omega, cnd_dec (fun h6 => no ?_) fun h6 => ?_⟩
      · rcases small n (by omega) hlt2 with q | q
        · omega
        · exact may_no hx q
      · rcases small n (by omega) hlt2 with q | q
        · omega
        · exact may_no hx q
      · rw [wr (by omega) (by omega)]
        refine ⟨⟨n + 1, by simp, by omega, fun m h7 h8 => ?_⟩, by dsimp only; omega⟩
        by_cases h9 : m = n
        · subst h9; omega
        · exact hall m h7 (by omega)
    · rw [wr (by omega) (by omega)]
      have hn2 : n = 2 := by omega
      subst hn2
      have q0 := hall 0 (by omega) (by omega)
      have q1 := hall 1 (by omega) (by omega)
      have hb : endB g x = true := endB_iff.2 (by simp [nth2] at q0 q1; omega)
      exact ⟨⟨k + 1, by simp, by omega, may_take hx ha hb⟩, by dsimp only; omega⟩
  · have hke : k = es.length := by omega
    subst hke
    rw [List.take_length] at ha
    have : mayB g es = true := by
      simp only [mayB, Bool.and_eq_true, decide_eq_true_eq]; exact ⟨⟨⟨by omega, by omega⟩, by omega⟩, ha⟩
    exact this ▸ h
theorem lit2 {a b : Int} {j : Int} (h0 : 0 ≤ j) (h2 : j < 2) : (#[.int .i64 a, .int .i64 b] : Array Value)[Int.toNat j]? = some (.int .i64 (nth2 (a, b) j)) := by
  have : j = 0 ∨ j = 1 := by omega
  rcases this with rfl | rfl <;> rfl
theorem okMay {g : Int} {es : Es} {R : Bool → Prop} (h : R (mayB g es)) : Ok140 g es R := by
  apply ok140
  unfold T140
  have no : mayB g es = false → R false := fun e => e ▸ h
  refine ⟨mayB g es = false, ?_, no⟩
  refine cnd_dec (fun h1 => by simp [mayB]; omega) fun h1 => cnd_dec (fun h2 => by simp [mayB]; omega) fun h2 => cnd_dec (fun h3 => no (by simp [mayB]; omega)) fun h3 => ?_
  refine ⟨fun i => ∃ k : Nat, i = k ∧ k ≤ es.length ∧ (es.take k).all (endB g) = true, fun i => ((es.length : Int) - i).toNat, ⟨0, rfl, by omega, by simp⟩, ?_⟩
  rintro _ ⟨k, rfl, hk, ha⟩
  refine cnd_dec (fun hlt => ⟨by omega, hlt, fun x hx => ?_⟩) fun hlt => ?_
  · have hx : es[k]? = some x := by simpa using hx
    have small : ∀ j : Int, (0 ≤ nth2 x j ∧ nth2 x j < g) ∨ endB g x = false := fun j => by
      by_cases hb : endB g x = true
      · have := endB_iff.1 hb
        left; unfold nth2; split <;> omega
      · right; simpa using hb
    refine ⟨fun j => ∃ n : Nat, j = n ∧ n ≤ 2 ∧ ∀ m : Int, 0 ≤ m → m < n → 0 ≤ nth2 x m ∧ nth2 x m < g, fun j => (2 - j).toNat, ⟨0, rfl, by omega, by omega⟩, ?_⟩
    rintro _ ⟨n, rfl, hn, hall⟩
    refine cnd_dec (fun hlt2 => ⟨by omega, by omega, nth2 x n, lit2 (by omega) hlt2, ?_⟩) fun hlt2 => ?_
    · refine cnd_dec (fun h5 => no ?_) fun h5 => cnd_dec (fun h6 => no ?_) fun h6 => ?_
      · rcases small n with q | q
        · omega
        · exact may_no hx q
      · rcases small n with q | q
        · omega
        · exact may_no hx q
      · rw [wr (by omega) (by omega)]
        refine ⟨⟨n + 1, by simp, by omega, fun m h7 h8 => ?_⟩, by dsimp only; omega⟩
        by_cases h9 : m = n
        · subst h9; omega
        · exact hall m h7 (by omega)
    · rw [wr (by omega) (by omega)]
      have hn2 : n = 2 := by omega
      subst hn2
      have q0 := hall 0 (by omega) (by omega)
      have q1 := hall 1 (by omega) (by omega)
      have hb : endB g x = true := endB_iff.2 (by simp [nth2] at q0 q1; omega)
      exact ⟨⟨k + 1, by simp, by omega, may_take hx ha hb⟩, by dsimp only; omega⟩
  · have hke : k = es.length := by omega
    subst hke
    rw [List.take_length] at ha
    have : mayB g es = true := by
      simp only [mayB, Bool.and_eq_true, decide_eq_true_eq]; exact ⟨⟨⟨by omega, by omega⟩, by omega⟩, ha⟩
    exact this ▸ h
/-- The node that a half-edge leaves, and that it comes to. -/
def fromH (es : Es) (h : Nat) : Int := nth2 (es.getD (h / 2) (0, 0)) ((h % 2 : Nat) : Int)
def toH (es : Es) (h : Nat) : Int := nth2 (es.getD (h / 2) (0, 0)) (1 - ((h % 2 : Nat) : Int))
theorem half_div (h : Nat) (hh : h ≤ 10000000) : IntKind.i64.wrap (Int.tdiv (h : Int) 2) = ((h / 2 : Nat) : Int) := by
  have : Int.tdiv (h : Int) 2 = ((h / 2 : Nat) : Int) := by rw [Int.tdiv_eq_ediv_of_nonneg (by omega)]; omega
  rw [this, wr (by omega) (by omega)]
theorem half_mod (h : Nat) : Int.tmod (h : Int) 2 = ((h % 2 : Nat) : Int) := by
  rw [Int.tmod_eq_emod_of_nonneg (by omega)]; omega
theorem half_at {es : Es} {h : Nat} (hh : h < 2 * es.length) : es[h / 2]? = some (es.getD (h / 2) (0, 0)) := by
  have hl : h / 2 < es.length := by omega
  simp [List.getD, List.getElem?_eq_getElem hl]
theorem okFrom {g : Int} {es : Es} {h : Nat} {R : Int → Prop} (hh : h < 2 * es.length) (hl : es.length ≤ 1000000) (k : R (fromH es h)) : Ok88 g es h R := by
  apply ok88
  unfold T88
  rw [half_div h (by omega), half_mod]
  refine ⟨by decide, by decide, by omega, by omega, by omega, by omega, fun x hx => ?_⟩
  rw [Int.toNat_natCast] at hx
  rw [half_at hh] at hx
  obtain rfl := Option.some.inj hx
  exact k
theorem okTo {g : Int} {es : Es} {h : Nat} {R : Int → Prop} (hh : h < 2 * es.length) (hl : es.length ≤ 1000000) (k : R (toH es h)) : Ok55 g es h R := by
  apply ok55
  unfold T55
  rw [half_div h (by omega), half_mod, wr (by omega) (by omega)]
  refine ⟨by decide, by decide, by omega, by omega, by omega, by omega, fun x hx => ?_⟩
  rw [Int.toNat_natCast] at hx
  rw [half_at hh] at hx
  obtain rfl := Option.some.inj hx
  exact k
theorem toH_in {g : Int} {es : Es} (m : MayN g es) {h : Nat} (hh : h < 2 * es.length) : 0 ≤ toH es h ∧ toH es h < g := by
  have := m.e _ _ (half_at hh)
  unfold toH nth2; split <;> omega
/-- The first k half-edges that leave a node, rising; of all nodes. -/
def outL (es : Es) (k : Nat) (v : Nat) : List Int := ((List.range k).filter fun h => fromH es h == (v : Int)).map fun (h : Nat) => (h : Int)
end Go.Proofs.Ytmcloipjlihhlaa.N
