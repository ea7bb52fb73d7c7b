/- Breadth first, as plain data: what is found, how far, that nothing nearer is missed. Conditions: none. -/
import Derived.Test.YtmcloipjlihhlaaNNet
namespace Go.Proofs.Ytmcloipjlihhlaa.N
open Go.X Go.Proofs.Ytmcloipjlihhlaa
set_option maxRecDepth 100000

theorem nodup_bound : ∀ (n : Nat) (l : List Nat), l.Nodup → (∀ x ∈ l, x < n) → l.length ≤ n := by
  intro n
  induction n with
  | zero =>
    intro l _ h
    cases l with
    | nil => exact Nat.le_refl _
    | cons a t => exact absurd (h a (by simp)) (by omega)
  | succ n ih =>
    intro l nd h
    by_cases hn : n ∈ l
    · have h1 := ih (l.erase n) (nd.erase n) fun x hx => by
        have h2 := h x (List.mem_of_mem_erase hx)
        have h3 : x ≠ n := fun e => by subst e; exact (nd.not_mem_erase) hx
        omega
      rw [List.length_erase_of_mem hn] at h1
      omega
    · have := ih l nd fun x hx => by
        have h2 := h x hx
        have h3 : x ≠ n := fun e => hn (e ▸ hx)
        omega
      omega
theorem nodup_boundI {g : Int} {l : List Int} (nd : l.Nodup) (h : ∀ x ∈ l, 0 ≤ x ∧ x < g) : l.length ≤ g.toNat := by
  have h1 : (l.map Int.toNat).Nodup := by
    refine List.pairwise_map.2 (List.Pairwise.imp_of_mem (fun {x y} hx hy hne e => ?_) nd)
    have := h x hx; have := h y hy
    have : x.toNat = y.toNat := e
    omega
  have := nodup_bound g.toNat _ h1 fun x hx => by
    obtain ⟨y, hy, rfl⟩ := List.mem_map.1 hx
    have := h y hy
    omega
  simpa using this
inductive Reach (es : Es) : Int → Int → Prop
  | start (u : Int) : Reach es u u
  | step {u : Int} (h : Nat) (hh : h < 2 * es.length) (r : Reach es u (fromH es h)) : Reach es u (toH es h)
/-- The other half. -/
def mate (h : Nat) : Nat := if h % 2 = 0 then h + 1 else h - 1
theorem mate_lt {m h : Nat} (hh : h < 2 * m) : mate h < 2 * m := by unfold mate; split <;> omega
theorem mate_div (h : Nat) : mate h / 2 = h / 2 := by unfold mate; split <;> omega
theorem mate_mate (h : Nat) : mate (mate h) = h := by unfold mate; split <;> split <;> omega
theorem from_mate (es : Es) (h : Nat) : fromH es (mate h) = toH es h := by
  unfold fromH toH
  rw [mate_div]
  congr 1
  unfold mate; split <;> omega
theorem to_mate (es : Es) (h : Nat) : toH es (mate h) = fromH es h := by
  unfold fromH toH
  rw [mate_div]
  congr 1
  unfold mate; split <;> omega
theorem Reach.trans {es : Es} {u v w : Int} (a : Reach es u v) (b : Reach es v w) : Reach es u w := by
  induction b with
  | start => exact a
  | step h hh _ ih => exact .step h hh ih
theorem Reach.one {es : Es} {h : Nat} (hh : h < 2 * es.length) : Reach es (fromH es h) (toH es h) := .step h hh (.start _)
theorem Reach.symm {es : Es} {u v : Int} (a : Reach es u v) : Reach es v u := by
  induction a with
  | start => exact .start _
  | step h hh _ ih =>
    have := Reach.one (mate_lt hh)
    rw [from_mate, to_mate] at this
    exact this.trans ih
theorem Reach.in {g : Int} {es : Es} (m : MayN g es) {u v : Int} (a : Reach es u v) (hu : 0 ≤ u ∧ u < g) : 0 ≤ v ∧ v < g := by
  cases a with
  | start => exact hu
  | step h hh _ => exact toH_in m hh
structure BT where
  ord : List Int
  by' : List Int
  far : List Int
/-- A half-edge is looked at, from v. -/
def bH (es : Es) (v : Int) (t : BT) (h : Int) : BT :=
  if t.far.getD (toH es h.toNat).toNat 0 < 0 then ⟨t.ord ++ [toH es h.toNat], t.by'.set (toH es h.toNat).toNat h, t.far.set (toH es h.toNat).toNat (t.far.getD v.toNat 0 + 1)⟩ else t
def outV (es : Es) (v : Int) : List Int := outL es (2 * es.length) v.toNat
def bV (es : Es) (v : Int) (t : BT) : BT := (outV es v).foldl (bH es v) t
end Go.Proofs.Ytmcloipjlihhlaa.N
