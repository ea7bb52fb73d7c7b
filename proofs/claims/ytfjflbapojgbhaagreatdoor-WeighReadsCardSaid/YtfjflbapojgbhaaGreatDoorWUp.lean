/- Upto statements over laid tables: the witness, and what a bound on bulk says of texts. Conditions: none. -/
import Derived.Test.YtfjflbapojgbhaaGreatDoorWGlOf
import Derived.Test.YtfjflbapojgbhaaGreatDoorXOpen3
import Derived.Test.YtfjflbapojgbhaaGreatDoorXBulk
import Derived.Deep.DeepHandedRow
namespace Go.X
open Go.ChangeShapes Go.WideShapes Go.ChangeAt Go.RowKit Go.Deep
section
variable {H : Type} {enc : TypeId × Value → H} {P : Program} {W : World} {base : Nat}
theorem vw_openQ {α : Type} [Inhabited α] (Q : α → DataW H → Prop) (E : En α) {t e : TypeId} {a : Option Addr} {len cap : Nat} {d : DataW H} {p : List MemPlace} (ht : P.underlying t = some (.slice e)) (hc : P.cellsOf e = E.sz)
    (hs : ∀ x, a = some x → x.spot = none)
    (hel : ∀ (n : Nat) (cs : List Value) (y : DataW H × List MemPlace), DataW.trod enc P W base (fun _ => true) true n e cs = some y → ∃ x : α, cs = E.enc x ∧ Q x y.1)
    (h : DataW.Trod enc P W base (fun _ => true) true t (.slice a len cap) d p) : ∃ xs : List α, (Ck.vw E a len cap xs).ok W.heap ∧ (xs.length = 0 ∨ ∃ el sp, d = .slice el sp ∧ el.length = xs.length ∧ ∀ (i : Nat) (x : α), xs[i]? = some x → ∃ dd, el[i]? = some dd ∧ Q x dd) := by
  obtain ⟨fuel, hf⟩ := h
  have hcs0 : (Value.slice a len cap).cells.toList = [.slice a len cap] := rfl
  rw [hcs0] at hf
  rcases open_slice ht hf with ⟨hcs, _⟩ | ⟨x, l, c, m, n, D, Pl, hcs, _, hl, hm, hmm, hd, hx⟩
  · simp at hcs
    obtain ⟨rfl, rfl, rfl⟩ := hcs
    exact ⟨[], ⟨⟨by simp [En.l], .inl ⟨rfl, rfl⟩⟩, rfl, Nat.le_refl _, fun _ => rfl⟩, .inl rfl⟩
  · simp at hcs
    obtain ⟨rfl, rfl, rfl⟩ := hcs
    simp only [if_true] at hmm
    subst hmm
    have hsp := hs x rfl
    obtain ⟨b, o, sp⟩ := x
    simp only at hsp
    subst hsp
    obtain ⟨V, hV⟩ := choose_lt (α := α) (p := fun i v => W.cells? base ((⟨b, o, none⟩ : Addr).add (i * P.cellsOf e)) (P.cellsOf e) = some (E.enc v) ∧ Q v (D i)) (fun i hi => by
      obtain ⟨cs', h1, h2⟩ := hx i hi
      obtain ⟨v, rfl, hq⟩ := hel _ _ _ h2
      exact ⟨v, h1, hq⟩)
    refine ⟨(List.range len).map V, ⟨⟨by rw [En.l_len]; simp, .inr ⟨b, o, rfl, fun j v hj => ?_⟩⟩, by simp, hl, fun q => by cases q⟩, .inr ⟨_, _, congrArg Prod.fst hd, by simp, fun i x hi => ?_⟩⟩
    rotate_left
    · have hil : i < len := by have := (List.getElem?_eq_some_iff.1 hi).1; simpa using this
      have e1 : x = V i := by simp [hil] at hi; exact hi.symm
      subst e1
      exact ⟨D i, by simp [hil], (hV i (by omega)).2⟩
    have hjl : j < len * E.sz := by
      have := (List.getElem?_eq_some_iff.1 hj).1
      rw [En.l_len] at this; simpa using this
    have hi : j / E.sz < len := Nat.div_lt_of_lt_mul (by rw [Nat.mul_comm]; exact hjl)
    have ht2 : j % E.sz < E.sz := Nat.mod_lt _ E.pos
    have ej : j / E.sz * E.sz + j % E.sz = j := Nat.div_add_mod' j E.sz
    have g1 : ((List.range len).map V)[j / E.sz]? = some (V (j / E.sz)) := by simp [hi]
    have hlen : j % E.sz < (E.enc (V (j / E.sz))).length := by rw [E.len]; exact ht2
    have g2 := En.l_get g1 (List.getElem?_eq_getElem hlen)
    rw [ej, hj] at g2
    obtain rfl := Option.some.inj g2
    have g3 := (World.cells?_some (hV (j / E.sz) (by omega)).1).2.2 (j % E.sz) (by rw [hc]; exact ht2)
    rw [Go.Deep.add_add, hc, ej, List.getElem?_eq_getElem hlen] at g3
    rw [← g3]
    rw [show (⟨b, o, none⟩ : Addr).add j = ⟨b, o + j, none⟩ from add_none _ _ _, cell_hcell]
theorem strs_openS {t e : TypeId} {a : Option Addr} {len cap : Nat} {d : DataW H} {p : List MemPlace} (ht : P.underlying t = some (.slice e)) (he : P.underlying e = some .string) (hc : P.cellsOf e = 1)
    (hs : ∀ x, a = some x → x.spot = none) (h : DataW.Trod enc P W base (fun _ => true) true t (.slice a len cap) d p) :
    ∃ xs : List ByteArray, (Ck.vw eS a len cap xs).ok W.heap ∧ ∀ x ∈ xs, x.size ≤ 9223372036854775807 := by
  obtain ⟨xs, h1, h2⟩ := vw_openQ (fun x dd => x.size ≤ 9223372036854775807) eS (enc := enc) (base := base) ht hc hs (fun n cs y q => by
    obtain ⟨m, rfl, h1, h2⟩ := DataW.trod_string he q
    exact ⟨m, rfl, h2⟩) h
  refine ⟨xs, h1, fun x hx => ?_⟩
  rcases h2 with h2 | ⟨el, sp, _, _, h3⟩
  · rw [List.eq_nil_of_length_eq_zero h2] at hx; cases hx
  · obtain ⟨i, hi, rfl⟩ := List.mem_iff_getElem.1 hx
    obtain ⟨dd, _, h4⟩ := h3 i xs[i] (List.getElem?_eq_getElem hi)
    exact h4
end
end Go.X
namespace Go.Proofs.YtfjflbapojgbhaaGreatDoor
end Go.Proofs.YtfjflbapojgbhaaGreatDoor
